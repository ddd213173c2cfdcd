/- The contract of addr.groups. -/
import Derived.Test.YtodbjjlgnnjmoaaDoorAe
import Derived.Test.YtodbjjlgnnjmoaaDoorPb
import Derived.OwnWalk
namespace Go.Proofs.YtodbjjlgnnjmoaaDoor
open Go.RowKit
theorem info61 : (Tryd.prog.info? 61).map (fun i => (i.zero, i.size, i.bytes)) = some (some (.int .u16 0), 1, 2) := by kernel_rfl
abbrev u16s (l : List Nat) : List Value := l.map fun (n : Nat) => Value.int .u16 (n : Int)
def GroupsR (s : ByteArray) (w : World) (e : Ending) (w' : World) : Prop :=
  ∃ v, e = .returned (.tuple #[v, .bool (okG s.data.toList)]) ∧ w'.ownsRow w.heap.size 61 1 v (valG s.data.toList).length (u16s (valG s.data.toList)) ∧ Below w.heap.size w w'
theorem groups_empty (s : ByteArray) (w : World) (h : s.data.toList = []) : Calls Tryd.prog 34 #[.string s] w (GroupsR s w) := by
  have hs : s = ⟨#[]⟩ := by
    apply ByteArray.ext
    apply Array.ext'
    simpa using h
  subst hs
  go_enter Tryd.func34, Tryd.ntmps34
  go_wp2
  go_ret2
  exact ⟨.slice none 0 0, rfl, World.ownsRow_nil _ _ _ _, Below.rfl' _⟩
/-- The values of the first k groups. -/
def vals6 (L : List ByteArray) (k : Nat) : List Nat := (L.take k).map fun p => val6 p.data.toList
theorem okG_no {s : ByteArray} {L : List ByteArray} {k : Nat} {p : ByteArray} (h0 : s.toList.isEmpty = false) (h1 : L.map (·.data.toList) = pcs 58 s.data.toList) (hp : L[k]? = some p) (hn : ok6 p.data.toList = false) :
    okG s.data.toList = false ∧ valG s.data.toList = [] := by
  have he : s.data.toList.isEmpty = false := by rw [← h0, Lib.toList_data]
  have : (pcs 58 s.data.toList).all ok6 = false := by
    rw [← h1, List.all_eq_false]
    exact ⟨p.data.toList, List.mem_map.2 ⟨p, List.mem_of_getElem? hp, rfl⟩, by simp [hn]⟩
  unfold okG valG
  rw [he, this]
  exact ⟨rfl, rfl⟩
theorem okG_yes {s : ByteArray} {L : List ByteArray} {N : Nat} (h0 : s.toList.isEmpty = false) (h1 : L.map (·.data.toList) = pcs 58 s.data.toList) (h4 : L.length = N) (hok : ∀ j, j < N → ok6 (L.getD j ⟨#[]⟩).data.toList = true) :
    okG s.data.toList = true ∧ valG s.data.toList = vals6 L N := by
  have he : s.data.toList.isEmpty = false := by rw [← h0, Lib.toList_data]
  have : (pcs 58 s.data.toList).all ok6 = true := by
    rw [← h1]
    simp only [List.all_eq_true, List.mem_map]
    rintro x ⟨p, hp, rfl⟩
    obtain ⟨j, hj⟩ := List.getElem?_of_mem hp
    have hlt : j < N := by rw [← h4]; exact (List.getElem?_eq_some_iff.1 hj).1
    have := hok j hlt
    rw [List.getD_eq_getElem?_getD, hj] at this
    exact this
  unfold okG valG vals6
  rw [he, this, ← h1, List.take_of_length_le (by omega)]
  simp
theorem vals6_step {L : List ByteArray} {k n : Nat} {p : ByteArray} (hp : L[k]? = some p) (hv : val6 p.data.toList = n) : vals6 L (k + 1) = vals6 L k ++ [n] := by
  unfold vals6
  obtain ⟨hlt, rfl⟩ := List.getElem?_eq_some_iff.1 hp
  rw [List.take_succ_eq_append_getElem hlt, List.map_append]
  simp [hv]
theorem grown_of_below {w w' : World} (h : Below w.heap.size w w') : w.grownBy w' none := ⟨h.os, h.tape, h.output, h.size, fun k hk _ => h.block k hk⟩
theorem owns_below {w w' : World} {base : Nat} {e : TypeId} {size : Nat} {v : Value} {n : Nat} {xs : List Value} (h : w.ownsRow base e size v n xs) (hb : Below w.heap.size w w') : w'.ownsRow base e size v n xs :=
  h.kept (grown_of_below hb) (by cases v.ownBlock with
    | none => exact .inl rfl
    | some g => exact .inr (by simp))
set_option maxRecDepth 100000 in
set_option maxHeartbeats 1000000 in
theorem groups_loop (s : ByteArray) (w : World) (m : Int) (hs : s.size < 4294967281) (hm : w.cell? ⟨0, 0, none⟩ = some (.int .i64 m)) (hne : s.toList.isEmpty = false) :
    Calls Tryd.prog 34 #[.string s] w (GroupsR s w) := by
  obtain ⟨i0, hi, hz0, hz1, hz2⟩ := info_parts info61
  have hsp := Tryd.strings_Split s ⟨#[58]⟩ m _ hs hm (by decide)
  have hL1 := splitB_pcs 58 s
  obtain ⟨L, hL⟩ : ∃ L, Lib.splitB ⟨#[58]⟩ 0 (Lib.countB s ⟨#[58]⟩) s = L := ⟨_, rfl⟩
  rw [hL] at hsp hL1
  have hLN : L.length = Lib.countB s ⟨#[58]⟩ + 1 := by
    have h1 := congrArg List.length hL1
    rw [List.length_map, ← countB_pcs] at h1
    exact h1
  have hLs : L.length ≤ s.size + 1 := by
    have := Lib.countB_le ⟨#[58]⟩ (by decide) s.size s (Nat.le_refl _)
    omega
  rw [← hLN] at hsp
  obtain ⟨N, hN⟩ : ∃ N, L.length = N := ⟨_, rfl⟩
  rw [hN] at hsp hLs
  have HL1 := Lib.hid hL1
  have HN := Lib.hid hN
  have HSP := Lib.hid hsp
  have HI := Lib.hid (And.intro hi (And.intro hz0 (And.intro hz1 hz2)))
  clear hL hL1 hLN hN hsp hi hz0 hz1 hz2
  go_enter Tryd.func34, Tryd.ntmps34
  go_wp2_with fail
  refine HSP.out.mono ?_
  rintro e w1 ⟨rfl, rfl⟩
  have g0 := HB.new w (List.map Value.string L).toArray 9
  clear HSP hm
  go_wp2
  go_loopw [4, 15] (fun v i wr => ∃ k : Nat, k ≤ N ∧ i = .int .i64 k ∧ Below w.heap.size w wr ∧ HB wr w.heap.size (List.map Value.string L).toArray 9 ∧ wr.ownsRow (w.heap.size + 1) 61 1 v k (u16s (vals6 L k)) ∧ ∀ j, j < k → ok6 (L.getD j ⟨#[]⟩).data.toList = true) (fun _ i _ => N - (intOf i).toNat)
  case atStart => exact ⟨0, by omega, rfl, (Below.rfl' _).al _, g0, World.ownsRow_nil _ _ _ _, by omega⟩
  case round =>
    obtain ⟨k, hk, rfl, hb, q0, hown, hok⟩ := hrel
    clear g0
    have HOK := Lib.hid hok
    clear hok
    by_cases hlt : k < N
    · obtain ⟨p, hp⟩ : ∃ p, L[k]? = some p := ⟨_, List.getElem?_eq_getElem (by rw [HN.out]; exact hlt)⟩
      have hc : wr.cell? ⟨w.heap.size, k, none⟩ = some (.string p) := by
        rw [q0.cell k]
        simp [hp]
      have HP := Lib.hid hp
      clear hp
      have HNS : Hid (ok6 p.data.toList = false → ∀ wx, Below w.heap.size w wx → GroupsR s w (.returned (.tuple #[.slice none 0 0, .bool false])) wx) := fun h wx hbx => by
        obtain ⟨hf, hv⟩ := okG_no hne HL1.out HP.out h
        refine ⟨.slice none 0 0, by rw [hf], ?_, hbx⟩
        rw [hv]
        exact World.ownsRow_nil _ _ _ _
      by_cases hp0 : p.size < 1
      · go_wp2
        go_ret2
        exact HNS.out (ok6_len (by rw [len_size]; omega)) _ hb
      · by_cases hp3 : 4 < p.size
        · go_wp2
          go_ret2
          exact HNS.out (ok6_len (by rw [len_size]; omega)) _ hb
        · obtain ⟨c, w2, hconv, hb2, hz2, hcells⟩ := conv_bytes wr p
          have HC := Lib.hid hcells
          clear hcells
          have HLN := Lib.hid (len_size p)
          have HG : Hid (¬ (p.data.toList.length < 1 ∨ 4 < p.data.toList.length)) := by
            rw [HLN.out]
            show ¬ _
            omega
          have q0' := q0.below hb2 q0.lt
          have hown' := owns_below hown hb2
          have hb' := hb.con hb2
          have hbz : w.heap.size + 1 ≤ w2.heap.size := by have := q0'.lt; omega
          clear hb hb2 hown q0 hz2
          go_wp2
          go_loop [7, 30] (fun nn i => ∃ j n : Nat, j ≤ p.size ∧ i = .int .i64 j ∧ nn = .int .i64 n ∧ n ≤ 65535 ∧ hexGo (p.data.toList.take j) 0 = some n) (fun _ i => 4 - (intOf i).toNat)
          case atStart => exact ⟨0, 0, by omega, rfl, rfl, by omega, rfl⟩
          case round =>
            obtain ⟨j, n, hj, rfl, rfl, hn, hdec⟩ := hrel
            have HD := Lib.hid hdec
            clear hdec
            by_cases hjl : j < p.size
            · have hcj := HC.out j hjl
              obtain ⟨ch, hch⟩ : ∃ ch, p.data.toList.getD j 0 = ch := ⟨_, rfl⟩
              rw [hch] at hcj
              have HCH := Lib.hid hch
              clear hch
              have hch8 : ch.toNat ≤ 255 := by have := ch.toNat_lt; omega
              have HST : Hid (∀ d, hexD ch = some d → hexGo (p.data.toList.take (j + 1)) 0 = some (16 * n + d) ∧ 16 * n + d ≤ 65535) := fun d hd => by
                have hstep : hexGo (p.data.toList.take (j + 1)) 0 = some (16 * n + d) := by
                  rw [take_snocD _ _ _ (by rw [HLN.out]; exact hjl) HCH.out, hexGo_snoc, HD.out]
                  simp only [Option.bind_some, hd]
                refine ⟨hstep, ?_⟩
                have h1 := hexGo_le _ _ _ hstep
                have h2 : (p.data.toList.take (j + 1)).length ≤ 4 := by rw [List.length_take, HLN.out]; omega
                have h3 : 16 ^ (p.data.toList.take (j + 1)).length ≤ 16 ^ 4 := Nat.pow_le_pow_right (by omega) h2
                simp only [Nat.zero_add, Nat.one_mul] at h1
                omega
              by_cases hd1 : 48 ≤ (ch.toNat : Int) ∧ (ch.toNat : Int) ≤ 57
              · have hx : hexD ch = some (ch.toNat - 48) := by unfold hexD; rw [if_pos (by omega)]
                have HX := Lib.hid (HST.out _ hx).1
                have hle := (HST.out _ hx).2
                clear hx HST
                go_wp2
                go_round
                case rel => exact ⟨j + 1, 16 * n + (ch.toNat - 48), by omega, by go_num, by go_num, hle, HX.out⟩
                case measure => simp [intOf]; omega
              · by_cases hd2 : 97 ≤ (ch.toNat : Int) ∧ (ch.toNat : Int) ≤ 102
                · have hx : hexD ch = some (ch.toNat - 97 + 10) := by unfold hexD; rw [if_neg (by omega), if_pos (by omega)]
                  have HX := Lib.hid (HST.out _ hx).1
                  have hle := (HST.out _ hx).2
                  clear hx HST
                  go_wp2
                  go_round
                  case rel => exact ⟨j + 1, 16 * n + (ch.toNat - 97 + 10), by omega, by go_num, by go_num, hle, HX.out⟩
                  case measure => simp [intOf]; omega
                · by_cases hd3 : 65 ≤ (ch.toNat : Int) ∧ (ch.toNat : Int) ≤ 70
                  · have hx : hexD ch = some (ch.toNat - 65 + 10) := by unfold hexD; rw [if_neg (by omega), if_neg (by omega), if_pos (by omega)]
                    have HX := Lib.hid (HST.out _ hx).1
                    have hle := (HST.out _ hx).2
                    clear hx HST
                    go_wp2
                    go_round
                    case rel => exact ⟨j + 1, 16 * n + (ch.toNat - 65 + 10), by omega, by go_num, by go_num, hle, HX.out⟩
                    case measure => simp [intOf]; omega
                  · have hx : hexD ch = none := by unfold hexD; rw [if_neg (by omega), if_neg (by omega), if_neg (by omega)]
                    have hdn : hexGo p.data.toList 0 = none := by
                      have e := List.take_append_drop j p.data.toList
                      rw [← e, List.drop_eq_getElem_cons (by rw [HLN.out]; exact hjl)]
                      refine hexGo_none ?_ _ _ _
                      have := HCH.out
                      rw [List.getD_eq_getElem?_getD, List.getElem?_eq_getElem (by rw [HLN.out]; exact hjl)] at this
                      simp only [Option.getD_some] at this
                      rw [this]
                      exact hx
                    have HDN := Lib.hid hdn
                    clear hdn hx HST
                    go_wp2
                    all_goals
                      go_ret2
                      exact HNS.out (ok6_dig HDN.out) _ hb'
            · have hfull : hexGo p.data.toList 0 = some n := by
                have := HD.out
                rwa [List.take_of_length_le (by rw [HLN.out]; omega)] at this
              have HF := Lib.hid hfull
              clear hfull
              obtain ⟨hi, hz0, hz1, hz2'⟩ := HI.out
              go_wp2_with (at_builtin; (refine wpList_append_own _ rfl _ _ 58 rfl (w.heap.size + 1) 61 i0 (.int .u16 0) 1 2 Tryd.underlying58 hi hz0 hz1 hz2' rfl (by decide) _ _ _ rfl (hown'.alloc _) ⟨w2.heap.size, 0, none⟩ 1 1 [.int .u16 (n : Int)] rfl rfl ?c1 ?c2 ?c3 ?c4 ?c5 ?_))
              case c2 => rfl
              case c3 => unfold maxLen; omega
              case c4 => omega
              case c5 => omega
              intro v' w3 hown3 hgrow _
              obtain ⟨hy1, hy2⟩ := ok6_yes HG.out HF.out
              have hown4 : w3.ownsRow (w.heap.size + 1) 61 1 v' (k + 1) (u16s (vals6 L (k + 1))) := by
                rw [vals6_step HP.out hy2]
                unfold u16s
                rw [List.map_append]
                exact hown3
              have hb3 : Below w.heap.size w w3 := by
                refine (hb'.al _).grown hgrow (by have := hb'.size; simp; omega) (fun g hg => ?_)
                have := (hown'.lt g hg).1
                omega
              have q3 : HB w3 w.heap.size (List.map Value.string L).toArray 9 := by
                refine (hgrow.block _ (by simp; omega) (fun e => ?_)).trans (q0'.alloc _)
                have := (hown'.lt _ e.symm).1
                omega
              clear hown3 hown' hgrow
              go_wp2
              go_roundw
              case rel =>
                refine ⟨k + 1, by omega, by go_num, hb3, q3, hown4, fun i hi => ?_⟩
                rcases Nat.lt_succ_iff_lt_or_eq.1 hi with h | rfl
                · exact HOK.out i h
                · rw [List.getD_eq_getElem?_getD, HP.out]
                  exact hy1
              case measure => simp [intOf]; omega
    · obtain rfl : k = N := by omega
      obtain ⟨hy1, hy2⟩ := okG_yes hne HL1.out HN.out HOK.out
      have HY1 := Lib.hid hy1
      have HY2 := Lib.hid hy2
      clear hy1 hy2
      go_wp2
      go_ret2
      refine ⟨_, by rw [HY1.out]; rfl, ?_, hb⟩
      rw [HY2.out]
      have e : (vals6 L k).length = k := by
        unfold vals6
        rw [List.length_map, List.length_take, HN.out]
        omega
      rw [e]
      exact ⟨hown.1, hown.2.imp id fun ⟨g, cap, cur, h1, h2, h3⟩ => ⟨g, cap, cur, h1, by omega, h3⟩⟩
theorem groups_any (s : ByteArray) (w : World) (m : Int) (hs : s.size < 4294967281) (hm : w.cell? ⟨0, 0, none⟩ = some (.int .i64 m)) :
    Calls Tryd.prog 34 #[.string s] w (GroupsR s w) := by
  by_cases h : s.data.toList = []
  · exact groups_empty s w h
  · refine groups_loop s w m hs hm ?_
    rw [Lib.toList_data]
    simpa using h
end Go.Proofs.YtodbjjlgnnjmoaaDoor
