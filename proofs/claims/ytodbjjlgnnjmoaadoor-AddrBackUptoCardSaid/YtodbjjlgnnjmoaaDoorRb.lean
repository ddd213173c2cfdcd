/- The reference's function pieces. -/
import Derived.Test.YtodbjjlgnnjmoaaDoorRa
import Derived.Laws.AppendOwnNone
namespace Go.Proofs.YtodbjjlgnnjmoaaDoor
open Go.RowKit
theorem pcs_snoc_eq (c : UInt8) : ∀ l : List UInt8, pcs c (l ++ [c]) = pcs c l ++ [[]]
  | [] => by simp [pcs]
  | b :: l => by
    have ih := pcs_snoc_eq c l
    rw [List.cons_append]
    unfold pcs
    rw [ih]
    by_cases hb : b = c
    · simp [hb]
    · rw [if_neg hb, if_neg hb]
      cases h : pcs c l with
      | nil => exact absurd h (pcs_ne c l)
      | cons p r => rfl
theorem pcs_snoc_ne (c b : UInt8) (hb : b ≠ c) : ∀ (l : List UInt8) (L : List (List UInt8)) (p : List UInt8), pcs c l = L ++ [p] → pcs c (l ++ [b]) = L ++ [p ++ [b]]
  | [], L, p, h => by
    cases L with
    | nil =>
      simp only [pcs, List.nil_append, List.cons.injEq, and_true] at h
      subst h
      simp [pcs, hb]
    | cons x L => simp [pcs] at h
  | a :: l, L, p, h => by
    rw [List.cons_append]
    unfold pcs at h ⊢
    by_cases ha : a = c
    · rw [if_pos ha] at h ⊢
      cases L with
      | nil =>
        simp only [List.nil_append, List.cons.injEq] at h
        exact absurd h.2 (pcs_ne c l)
      | cons x L =>
        simp only [List.cons_append, List.cons.injEq] at h
        rw [pcs_snoc_ne c b hb l L p h.2, ← h.1]
        rfl
    · rw [if_neg ha] at h ⊢
      cases hp : pcs c l with
      | nil => exact absurd hp (pcs_ne c l)
      | cons q r =>
        rw [hp] at h
        simp only at h
        cases L with
        | nil =>
          simp only [List.nil_append, List.cons.injEq] at h
          obtain ⟨rfl, rfl⟩ := h
          rw [pcs_snoc_ne c b hb l [] q hp]
          rfl
        | cons x L =>
          simp only [List.cons_append, List.cons.injEq] at h
          obtain ⟨rfl, rfl⟩ := h
          rw [pcs_snoc_ne c b hb l (q :: L) p hp]
          rfl
theorem extract_list (s : ByteArray) (f k : Nat) : (s.extract f k).data.toList = (s.data.toList.take k).drop f := by
  rw [ByteArray.data_extract, Array.toList_extract, List.extract_eq_take_drop, List.drop_take]
theorem info9 : (Tryd.prog.info? 9).map (fun i => (i.zero, i.size, i.bytes)) = some (some (.string ⟨#[]⟩), 1, 16) := by kernel_rfl
abbrev strs (L : List ByteArray) : List Value := L.map Value.string
abbrev lists (L : List ByteArray) : List (List UInt8) := L.map (·.data.toList)
def PiecesR (s : ByteArray) (c : UInt8) (w : World) (e : Ending) (w' : World) : Prop :=
  ∃ v L, e = .returned v ∧ w'.ownsRow w.heap.size 9 1 v (L : List ByteArray).length (strs L) ∧ lists L = pcs c s.data.toList ∧ Below w.heap.size w w'
set_option maxRecDepth 100000 in
theorem pieces_any (s : ByteArray) (c : UInt8) (w : World) (hs : s.size < 4294967281) :
    Calls Tryd.prog 37 #[.string s, .int .u8 c.toNat] w (PiecesR s c w) := by
  have hc8 : c.toNat ≤ 255 := by have := c.toNat_lt; omega
  have HLN := Lib.hid (len_size s)
  obtain ⟨i0, hi, hz0, hz1, hz2⟩ := info_parts info9
  have HI := Lib.hid (And.intro hi (And.intro hz0 (And.intro hz1 hz2)))
  clear hi hz0 hz1 hz2
  go_enter Tryd.func37, Tryd.ntmps37
  go_wp2
  go_loopw [5, 6, 7] (fun v fr i wr => ∃ (L : List ByteArray) (f k : Nat), k ≤ s.size + 1 ∧ i = .int .i64 k ∧ fr = .int .i64 f ∧ Below w.heap.size w wr ∧ wr.ownsRow w.heap.size 9 1 v L.length (strs L) ∧ L.length ≤ k ∧
    ((k ≤ s.size ∧ f ≤ k ∧ pcs c (s.data.toList.take k) = lists L ++ [(s.data.toList.take k).drop f]) ∨ (k = s.size + 1 ∧ lists L = pcs c s.data.toList))) (fun _ _ i _ => s.size + 1 - (intOf i).toNat)
  case atStart => exact ⟨[], 0, 0, by omega, rfl, rfl, Below.rfl' _, World.ownsRow_nil _ _ _ _, by simp, .inl ⟨by omega, by omega, rfl⟩⟩
  case round =>
    obtain ⟨L, f, k, hk, rfl, rfl, hb, hown, hL, hcase⟩ := hrel
    rcases hcase with ⟨hk1, hf, hpc⟩ | ⟨rfl, hpc⟩
    · have HP := Lib.hid hpc
      clear hpc
      by_cases hend : k = s.size ∨ (∃ h : k < s.size, s[k] = c)
      · have hgd : ((k : Int) == (s.size : Int)) = true ∨ (((k : Int) == (s.size : Int)) = false ∧ ∃ h : k < s.size, ((s[k].toNat : Int) == (c.toNat : Int)) = true) := by
          by_cases h : k = s.size
          · left; simp [h]
          · right
            rcases hend with h' | ⟨h', h''⟩
            · exact absurd h' h
            · exact ⟨by simp; omega, h', by simp [h'']⟩
        have HE := Lib.hid hend
        clear hend
        have hnx : pcs c (s.data.toList.take (k + 1)) = lists (L ++ [s.extract f k]) ++ [(s.data.toList.take (k + 1)).drop (k + 1)] ∧ k < s.size ∨ k = s.size ∧ lists (L ++ [s.extract f k]) = pcs c s.data.toList := by
          have hl1 : lists (L ++ [s.extract f k]) = lists L ++ [(s.data.toList.take k).drop f] := by
            simp only [lists, List.map_append, List.map_cons, List.map_nil, extract_list]
          rw [hl1, ← HP.out]
          rcases HE.out with h | ⟨h1, h2⟩
          · right
            refine ⟨h, ?_⟩
            rw [List.take_of_length_le (by rw [HLN.out]; omega)]
          · left
            refine ⟨?_, h1⟩
            rw [take_at (at_k s k h1), h2, pcs_snoc_eq, List.drop_of_length_le (by rw [List.length_append, List.length_take]; simp; omega)]
        have HNX := Lib.hid hnx
        clear hnx
        rcases hgd with hg1 | ⟨hg1, hlt, hg2⟩
        all_goals
          obtain ⟨hi, hz0, hz1, hz2'⟩ := HI.out
          go_wp2_with (at_builtin; (refine wpList_append_own _ rfl _ _ 46 rfl w.heap.size 9 i0 (.string ⟨#[]⟩) 1 16 Tryd.underlying46 hi hz0 hz1 hz2' rfl (by decide) _ _ _ rfl (hown.alloc _) ⟨wr.heap.size, 0, none⟩ 1 1 [.string (s.extract f k)] rfl rfl ?c1 ?c2 ?c3 ?c4 ?c5 ?_))
          case c1 => exact cell_one_new _ _ _
          case c2 => simp [Value.oneCell']
          case c3 => unfold maxLen; omega
          case c4 => omega
          case c5 => have := hb.size; simp; omega
          intro v' w3 hown3 hgrow _
          have hown4 : w3.ownsRow w.heap.size 9 1 v' (L ++ [s.extract f k]).length (strs (L ++ [s.extract f k])) := by
            unfold strs
            rw [List.map_append, List.length_append]
            exact hown3
          have hb3 : Below w.heap.size w w3 := by
            refine (hb.al _).grown hgrow (by have := hb.size; simp; omega) (fun g hg => ?_)
            exact (hown.lt g hg).1
          clear hown3 hown hgrow hb
          go_wp2
          go_roundw
          case rel =>
            refine ⟨L ++ [s.extract f k], k + 1, k + 1, by omega, by go_num, by go_num, hb3, hown4, by simp; omega, ?_⟩
            rcases HNX.out with ⟨h, h'⟩ | ⟨h, h'⟩
            · exact .inl ⟨by omega, by omega, h⟩
            · exact .inr ⟨by omega, h'⟩
          case measure => simp [intOf]; omega
      · have hlt : k < s.size := by
          rcases Nat.lt_or_ge k s.size with h | h
          · exact h
          · exact absurd (.inl (by omega)) hend
        have hne : s[k] ≠ c := fun e => hend (.inr ⟨hlt, e⟩)
        have hg1 : ((k : Int) == (s.size : Int)) = false := by simp; omega
        have hg2 : ((s[k].toNat : Int) == (c.toNat : Int)) = false := by
          cases h : ((s[k].toNat : Int) == (c.toNat : Int))
          · rfl
          · exact absurd (u8_eq h) hne
        have HNX : Hid (pcs c (s.data.toList.take (k + 1)) = lists L ++ [(s.data.toList.take (k + 1)).drop f]) := by
          show _ = _
          rw [take_at (at_k s k hlt), pcs_snoc_ne c _ hne _ _ _ HP.out, List.drop_append_of_le_length (by rw [List.length_take, HLN.out]; omega)]
        clear hend hne
        go_wp2
        go_roundw
        case rel => exact ⟨L, f, k + 1, by omega, by go_num, rfl, hb, hown, by omega, .inl ⟨by omega, by omega, HNX.out⟩⟩
        case measure => simp [intOf]; omega
    · have HP := Lib.hid hpc
      clear hpc
      go_wp2
      go_ret
      exact ⟨_, L, rfl, hown, HP.out, hb⟩
end Go.Proofs.YtodbjjlgnnjmoaaDoor
