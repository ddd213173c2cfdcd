/- The reference's function groups. -/
import Derived.Test.YtodbjjlgnnjmoaaDoorRc
namespace Go.Proofs.YtodbjjlgnnjmoaaDoor
open Go.RowKit
theorem info3 : (Tryd.prog.info? 3).map (fun i => (i.zero, i.size, i.bytes)) = some (some (.int .i64 0), 1, 8) := by kernel_rfl
abbrev nats (l : List Nat) : List Value := l.map fun (n : Nat) => Value.int .i64 (n : Int)
def RGroupsR (s : ByteArray) (w : World) (e : Ending) (w' : World) : Prop :=
  ∃ v, e = .returned (.tuple #[v, .bool (okG s.data.toList)]) ∧ w'.ownsRow w.heap.size 3 1 v (valG s.data.toList).length (nats (valG s.data.toList)) ∧ Below w.heap.size w w'
theorem rgroups_empty (s : ByteArray) (w : World) (h : s.data.toList = []) : Calls Tryd.prog 35 #[.string s] w (RGroupsR s w) := by
  have hs : s = ⟨#[]⟩ := by
    apply ByteArray.ext
    apply Array.ext'
    simpa using h
  subst hs
  go_enter Tryd.func35, Tryd.ntmps35
  go_wp2
  go_ret2
  exact ⟨.slice none 0 0, rfl, World.ownsRow_nil _ _ _ _, Below.rfl' _⟩
theorem num16_bad {l : List UInt8} (h : num16 l < 0) : ok6 l = false := by
  unfold num16 at h
  unfold ok6
  cases hd : part6 l with
  | none => rfl
  | some n => rw [hd] at h; simp at h; omega
theorem num16_get {l : List UInt8} (h : 0 ≤ num16 l) : ∃ n : Nat, num16 l = n ∧ ok6 l = true ∧ val6 l = n ∧ n < 65536 := by
  unfold num16 at h ⊢
  have hv := val6_lt l
  unfold ok6
  unfold val6 at hv ⊢
  cases hd : part6 l with
  | none => rw [hd] at h; simp at h
  | some n =>
    rw [hd] at hv
    exact ⟨n, rfl, rfl, rfl, hv⟩
set_option maxRecDepth 100000 in
set_option maxHeartbeats 1000000 in
theorem rgroups_loop (s : ByteArray) (w : World) (hs : s.size < 4294967281) (hne : s.toList.isEmpty = false) :
    Calls Tryd.prog 35 #[.string s] w (RGroupsR s w) := by
  have HLS := Lib.hid (len_size s)
  obtain ⟨i0, hi, hz0, hz1, hz2⟩ := info_parts info3
  have HI := Lib.hid (And.intro hi (And.intro hz0 (And.intro hz1 hz2)))
  clear hi hz0 hz1 hz2
  go_enter Tryd.func35, Tryd.ntmps35
  go_wp2_with fail
  refine (pieces_any s 58 _ hs).mono ?_
  rintro e w1 ⟨v, L, rfl, hown, hL, hb1⟩
  have hlen : L.length = s.data.toList.count 58 + 1 := by
    have := congrArg List.length hL
    rw [pcs_length] at this
    simpa using this
  obtain ⟨g, cap, cur, rfl, hg, hrow, hcell⟩ := owns_strs hown (by omega)
  have hle : L.length ≤ s.size + 1 := by
    have := List.count_le_length (a := (58 : UInt8)) (l := s.data.toList)
    rw [HLS.out] at this
    omega
  have hgl := hrow.lt
  have HL := Lib.hid hL
  have HC := Lib.hid hcell
  have HNE := Lib.hid hne
  clear hL hcell hown hlen hne
  obtain ⟨N, hN⟩ : ∃ N, L.length = N := ⟨_, rfl⟩
  rw [hN] at hle ⊢
  have HN := Lib.hid hN
  clear hN
  go_wp2
  go_loopw [5, 6] (fun v i wr => ∃ k : Nat, k ≤ N ∧ i = .int .i64 k ∧ Below w.heap.size w wr ∧ w1.heap.size ≤ wr.heap.size ∧ HB wr g cur 9 ∧ wr.ownsRow w1.heap.size 3 1 v k (nats (vals6 L k)) ∧ ∀ j, j < k → ok6 (L.getD j ⟨#[]⟩).data.toList = true) (fun _ i _ => N - (intOf i).toNat)
  case atStart => exact ⟨0, by omega, rfl, hb1, Nat.le_refl _, hrow, World.ownsRow_nil _ _ _ _, by omega⟩
  case round =>
    obtain ⟨k, hk, rfl, hb, hsz, q0, hown, hok⟩ := hrel
    clear hrow hb1
    have HOK := Lib.hid hok
    clear hok
    by_cases hlt : k < N
    · obtain ⟨p, hp⟩ : ∃ p, L[k]? = some p := ⟨_, List.getElem?_eq_getElem (by rw [HN.out]; exact hlt)⟩
      have hc : wr.cell? ⟨g, k, none⟩ = some (.string p) := by
        rw [q0.cell k]
        exact HC.out k p hp
      have HP := Lib.hid hp
      clear hp
      obtain ⟨n, hn⟩ : ∃ n, num16 p.data.toList = n := ⟨_, rfl⟩
      have HNN := Lib.hid hn
      clear hn
      by_cases hn0 : n < 0
      · go_wp2_with (first | (go_at_call 38; refine (num16_any _ _).mono ?_; rintro e w' ⟨rfl, rfl⟩; rw [HNN.out]))
        go_ret2
        obtain ⟨hf, hv⟩ := okG_no HNE.out HL.out HP.out (num16_bad (by rw [HNN.out]; exact hn0))
        refine ⟨.slice none 0 0, by rw [hf]; rfl, ?_, hb⟩
        rw [hv]
        exact World.ownsRow_nil _ _ _ _
      · obtain ⟨m, hm, hy1, hy2, hm6⟩ := num16_get (l := p.data.toList) (by rw [HNN.out]; omega)
        rw [HNN.out] at hm
        subst hm
        have HY := Lib.hid (And.intro hy1 hy2)
        clear hy1 hy2 hn0
        obtain ⟨hi, hz0, hz1, hz2'⟩ := HI.out
        go_wp2_with (first | (go_at_call 38; refine (num16_any _ _).mono ?_; rintro e w' ⟨rfl, rfl⟩; rw [HNN.out]) | (at_builtin; (refine wpList_append_own _ rfl _ _ 62 rfl w1.heap.size 3 i0 (.int .i64 0) 1 8 Tryd.underlying62 hi hz0 hz1 hz2' rfl (by decide) _ _ _ rfl (hown.alloc _) ⟨wr.heap.size, 0, none⟩ 1 1 [.int .i64 (m : Int)] rfl rfl ?c1 ?c2 ?c3 ?c4 ?c5 ?_)))
        case c1 => exact cell_one_new _ _ _
        case c2 => simp [Value.oneCell']
        case c3 => unfold maxLen; omega
        case c4 => omega
        case c5 => simp; omega
        intro v' w3 hown3 hgrow _
        have hown4 : w3.ownsRow w1.heap.size 3 1 v' (k + 1) (nats (vals6 L (k + 1))) := by
          rw [vals6_step HP.out HY.out.2]
          unfold nats
          rw [List.map_append]
          exact hown3
        have hsz0 : w.heap.size ≤ w1.heap.size := by omega
        have hb3 : Below w.heap.size w w3 := by
          refine (hb.al _).grown hgrow (by have := hb.size; simp; omega) (fun g hg => ?_)
          have := (hown.lt g hg).1
          omega
        have q3 : HB w3 g cur 9 := by
          refine (hgrow.block _ (by have := q0.lt; simp; omega) (fun e => ?_)).trans (q0.alloc _)
          have := (hown.lt _ e.symm).1
          omega
        have hsz3 : w1.heap.size ≤ w3.heap.size := by have := hgrow.size; simp at this; omega
        clear hown3 hown hgrow hb q0
        go_wp2
        go_roundw
        case rel =>
          refine ⟨k + 1, by omega, by go_num, hb3, hsz3, q3, hown4, fun i hi => ?_⟩
          rcases Nat.lt_succ_iff_lt_or_eq.1 hi with h | rfl
          · exact HOK.out i h
          · rw [List.getD_eq_getElem?_getD, HP.out]
            exact HY.out.1
        case measure => simp [intOf]; omega
    · obtain rfl : k = N := by omega
      obtain ⟨hy1, hy2⟩ := okG_yes HNE.out HL.out HN.out HOK.out
      have HY1 := Lib.hid hy1
      have HY2 := Lib.hid hy2
      clear hy1 hy2
      go_wp2
      go_ret2
      refine ⟨_, by rw [HY1.out]; rfl, ?_, hb⟩
      rw [HY2.out]
      have e : (vals6 L k).length = k := by
        unfold vals6
        rw [List.length_map, List.length_take, HN.out]
        omega
      rw [e]
      exact ⟨hown.1, hown.2.imp id fun ⟨g, cap, cur, h1, h2, h3⟩ => ⟨g, cap, cur, h1, by omega, h3⟩⟩
theorem rgroups_any (s : ByteArray) (w : World) (hs : s.size < 4294967281) :
    Calls Tryd.prog 35 #[.string s] w (RGroupsR s w) := by
  by_cases h : s.data.toList = []
  · exact rgroups_empty s w h
  · refine rgroups_loop s w hs ?_
    rw [Lib.toList_data]
    simpa using h
end Go.Proofs.YtodbjjlgnnjmoaaDoor
