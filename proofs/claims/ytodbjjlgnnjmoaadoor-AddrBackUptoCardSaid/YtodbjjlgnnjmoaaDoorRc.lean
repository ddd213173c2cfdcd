/- The reference's function parse4. -/
import Derived.Test.YtodbjjlgnnjmoaaDoorRb
import Derived.Test.YtodbjjlgnnjmoaaDoorAe
namespace Go.Proofs.YtodbjjlgnnjmoaaDoor
open Go.RowKit
/-- A row of texts, opened. -/
theorem owns_strs {w : World} {base : Nat} {v : Value} {n : Nat} {L : List ByteArray} (h : w.ownsRow base 9 1 v n (strs L)) (hn : 0 < n) :
    ∃ (g cap : Nat) (cur : Array Value), v = .slice (some ⟨g, 0, none⟩) n cap ∧ base ≤ g ∧ HB w g cur 9 ∧ ∀ (k : Nat) (p : ByteArray), L[k]? = some p → cur[k]? = some (Value.string p) := by
  obtain ⟨hl, h⟩ := h
  rcases h with ⟨_, rfl⟩ | ⟨g, cap, cur, rfl, hg, hb, hnc, _, hcs, htake⟩
  · exact absurd hn (Nat.lt_irrefl 0)
  · refine ⟨g, cap, cur, rfl, hg, hb, fun k p hp => ?_⟩
    have hk : k < n := by
      have := (List.getElem?_eq_some_iff.1 hp).1
      rw [List.length_map, Nat.mul_one] at hl
      omega
    have h1 : (strs L)[k]? = some (.string p) := by
      rw [List.getElem?_map, hp]
      rfl
    rw [← htake, List.getElem?_take] at h1
    rw [if_pos (by omega)] at h1
    simpa using h1
/-- What parse4 hands back. -/
def R4 (s : ByteArray) (w : World) (e : Ending) (w' : World) : Prop :=
  e = .returned (.tuple #[adr (if okFour s.data.toList then 4 else 0) (if okFour s.data.toList then valFour s.data.toList else z0), .int .i64 (if okFour s.data.toList then 0 else 30)]) ∧ Below w.heap.size w w'
theorem R4_no {s : ByteArray} {w w' : World} (h : okFour s.data.toList = false) (hb : Below w.heap.size w w') : R4 s w (.returned (.tuple #[adr 0 z0, .int .i64 30])) w' := by
  unfold R4
  rw [h]
  exact ⟨rfl, hb⟩
theorem R4_yes {s : ByteArray} {w w' : World} {b : Nat → Int} (h : okFour s.data.toList = true) (hv : b = valFour s.data.toList) (hb : Below w.heap.size w w') : R4 s w (.returned (.tuple #[adr 4 b, .int .i64 0])) w' := by
  unfold R4
  rw [h, hv]
  exact ⟨rfl, hb⟩
theorem num10_bad {l : List UInt8} (h : num10 l < 0) : ok4 l = false := by
  unfold num10 at h
  split at h
  · exact ok4_len (by omega)
  · cases hd : decGo l 0 with
    | none => exact ok4_dig hd
    | some n => rw [hd] at h; simp at h; omega
theorem num10_get {l : List UInt8} (h : 0 ≤ num10 l) : ∃ n : Nat, num10 l = n ∧ decGo l 0 = some n ∧ 1 ≤ l.length ∧ l.length ≤ 3 := by
  unfold num10 at h ⊢
  split at h
  · omega
  · rename_i hl
    rw [if_neg hl]
    cases hd : decGo l 0 with
    | none => rw [hd] at h; simp at h
    | some n => exact ⟨n, rfl, rfl, by omega, by omega⟩
set_option maxRecDepth 100000 in
set_option maxHeartbeats 1000000 in
theorem parse4_any (s : ByteArray) (w : World) (hs : s.size < 4294967281) : Calls Tryd.prog 24 #[.string s] w (R4 s w) := by
  have HLN := Lib.hid (len_size s)
  have g0 := HB.new w (ac 0 z0) 25
  go_enter Tryd.func24, Tryd.ntmps24
  go_wp2_with (refine al25 rfl rfl ?_)
  refine (pieces_any s 46 _ hs).mono ?_
  rintro e w1 ⟨v, L, rfl, hown, hL, hb1⟩
  have hb : Below w.heap.size w w1 := ((Below.rfl' w).al _).con hb1
  have q0 := g0.below hb1 g0.lt
  clear g0
  have hlen : L.length = s.data.toList.count 46 + 1 := by
    have := congrArg List.length hL
    rw [pcs_length] at this
    simpa using this
  obtain ⟨g, cap, cur, rfl, hg, hrow, hcell⟩ := owns_strs hown (by omega)
  have hle : L.length ≤ s.size + 1 := by
    have := List.count_le_length (a := (46 : UInt8)) (l := s.data.toList)
    rw [HLN.out] at this
    omega
  have hg' : w.heap.size < g := by simp at hg; omega
  have hsz : w.heap.size < w1.heap.size := q0.lt
  have hgl := hrow.lt
  have HL := Lib.hid hL
  have HC := Lib.hid hcell
  clear hL hcell hown hb1 hlen hg
  obtain ⟨N, hN⟩ : ∃ N, L.length = N := ⟨_, rfl⟩
  rw [hN] at hle ⊢
  have HN := Lib.hid hN
  clear hN
  by_cases h4 : N = 4
  · subst h4
    have q0' := q0.alloc (adrO 4 z0)
    have qr := hrow.alloc (adrO 4 z0)
    have q1 := HB.new w1 (ac 4 z0) 25
    have hb' := hb.al (adrO 4 z0)
    clear hrow q0 hb
    go_wp2_with (first | (refine al25 rfl rfl ?_) | (refine bu25_4 rfl rfl ?_) | (refine st25 rfl _ _ rfl _ rfl _ _ _ _ rfl (HB.new _ _ _) ?_; rw [World.setRow_alloc_new]))
    go_loopw [6] (fun i wr => ∃ k : Nat, k ≤ 4 ∧ i = .int .i64 k ∧ Below w.heap.size w wr ∧ HB wr w.heap.size (ac 0 z0) 25 ∧ HB wr w1.heap.size (ac 4 (fillB L k)) 25 ∧ HB wr g cur 9 ∧ ∀ j, j < k → ok4 (L.getD j ⟨#[]⟩).data.toList = true) (fun i _ => 4 - (intOf i).toNat)
    case atStart => exact ⟨0, by omega, rfl, hb', q0', q1, qr, by omega⟩
    case round =>
      obtain ⟨k, hk, rfl, hbr, p0, p1, pr, hok⟩ := hrel
      clear q0' qr q1 hb'
      have HOK := Lib.hid hok
      clear hok
      by_cases hlt : k < 4
      · obtain ⟨p, hp⟩ : ∃ p, L[k]? = some p := ⟨_, List.getElem?_eq_getElem (by rw [HN.out]; exact hlt)⟩
        have hc : wr.cell? ⟨g, k, none⟩ = some (.string p) := by
          rw [pr.cell k]
          exact HC.out k p hp
        have HP := Lib.hid hp
        clear hp
        have HPL := Lib.hid (len_size p)
        obtain ⟨n, hn⟩ : ∃ n, num10 p.data.toList = n := ⟨_, rfl⟩
        have HNN := Lib.hid hn
        clear hn
        have HF : Hid (ok4 p.data.toList = false → R4 s w (.returned (.tuple #[adr 0 z0, .int .i64 30])) (wr.setRow w.heap.size (ac 0 z0))) := fun h => R4_no (okFour_no HL.out HP.out h) (hbr.row (Nat.le_refl _) _)
        by_cases hn0 : n < 0
        · go_wp2_with (first | (go_at_call 38; refine (num10_any _ _).mono ?_; rintro e w' ⟨rfl, rfl⟩; rw [HNN.out]) | (refine bu25z rfl rfl ?_) | (refine st25 rfl _ _ rfl _ rfl _ _ _ _ rfl p0 ?_))
          exact ret25 rfl rfl rfl (p0.row _) (HF.out (num10_bad (by rw [HNN.out]; exact hn0)))
        · obtain ⟨m, hm, hdec, hl1, hl3⟩ := num10_get (l := p.data.toList) (by rw [HNN.out]; omega)
          rw [HNN.out] at hm
          subst hm
          rw [HPL.out] at hl1 hl3
          have HD := Lib.hid hdec
          clear hdec hn0
          by_cases hn255 : 255 < m
          · go_wp2_with (first | (go_at_call 38; refine (num10_any _ _).mono ?_; rintro e w' ⟨rfl, rfl⟩; rw [HNN.out]) | (refine bu25z rfl rfl ?_) | (refine st25 rfl _ _ rfl _ rfl _ _ _ _ rfl p0 ?_))
            exact ret25 rfl rfl rfl (p0.row _) (HF.out (ok4_big HD.out hn255))
          · have HHD := Lib.hid (head_get p (by omega))
            by_cases hbad : 1 < p.size ∧ p[0] = 48
            · obtain ⟨hp1, hz⟩ := hbad
              have hz' : ((p[0].toNat : Int) == 48) = true := by rw [hz]; rfl
              go_wp2_with (first | (go_at_call 38; refine (num10_any _ _).mono ?_; rintro e w' ⟨rfl, rfl⟩; rw [HNN.out]) | (refine bu25z rfl rfl ?_) | (refine st25 rfl _ _ rfl _ rfl _ _ _ _ rfl p0 ?_))
              refine ret25 rfl rfl rfl (p0.row _) (HF.out (ok4_len ?_))
              rw [HPL.out, HHD.out]
              exact .inr (.inr ⟨congrArg some hz, hp1⟩)
            · have HY : Hid (ok4 p.data.toList = true ∧ val4 p.data.toList = m) := by
                refine ok4_yes ?_ HD.out hn255
                rw [HPL.out, HHD.out]
                rintro (h | h | ⟨h, h'⟩)
                · omega
                · omega
                · exact hbad ⟨h', Option.some.inj h⟩
              have hcase : ¬ 1 < p.size ∨ (1 < p.size ∧ ((p[0].toNat : Int) == 48) = false) := by
                by_cases h1 : 1 < p.size
                · refine .inr ⟨h1, ?_⟩
                  cases h : ((p[0].toNat : Int) == 48)
                  · rfl
                  · exact absurd ⟨h1, u8_eq (b := 48) h⟩ hbad
                · exact .inl h1
              clear hbad
              have hcB := p1.adrB k (by omega)
              have hfB := p1.free (1 + k)
              rcases hcase with hp1 | ⟨hp1, hz⟩
              all_goals
                go_wp2_with (first | (go_at_call 38; refine (num10_any _ _).mono ?_; rintro e w' ⟨rfl, rfl⟩; rw [HNN.out]))
                go_roundw
                case rel =>
                  refine ⟨k + 1, by omega, by go_num, hbr.setCell (by simp; omega) _, p0.setOther (by simp; omega) _, ?_, pr.setOther (by simp; omega) _, fun i hi => ?_⟩
                  · have hs1 := p1.set (1 + k) (.int .u8 (m : Int))
                    rw [fill_step HP.out (by omega) HY.out.2] at hs1
                    exact hs1
                  · rcases Nat.lt_succ_iff_lt_or_eq.1 hi with h | rfl
                    · exact HOK.out i h
                    · rw [List.getD_eq_getElem?_getD, HP.out]
                      exact HY.out.1
                case measure => simp [intOf]; omega
      · obtain rfl : k = 4 := by omega
        go_wp2_with (first | (refine ld25 rfl _ rfl _ rfl _ _ p1 ?_) | (refine st25 rfl _ _ rfl _ rfl _ _ _ _ rfl p0 ?_))
        exact ret25 rfl rfl rfl (p0.row _) (R4_yes (okFour_yes HL.out HN.out HOK.out) (fill_end HL.out HN.out) (hbr.row (Nat.le_refl _) _))
  · have hne : ((N : Int) != 4) = true := by rw [bne_iff_ne]; omega
    have hf : okFour s.data.toList = false := by
      unfold okFour
      rw [← HL.out, List.length_map, HN.out]
      have : (N == 4) = false := by simpa using h4
      rw [this]
      rfl
    have HF := Lib.hid hf
    clear hf
    go_wp2_with (first | (refine al25 rfl rfl ?_) | (refine bu25_4 rfl rfl ?_) | (refine bu25z rfl rfl ?_) | (refine st25 rfl _ _ rfl _ rfl _ _ _ _ rfl (HB.new _ _ _) ?_; rw [World.setRow_alloc_new]) | (refine st25 rfl _ _ rfl _ rfl _ _ _ _ rfl (q0.alloc _) ?_))
    exact ret25 rfl rfl rfl ((q0.alloc _).row _) (R4_no HF.out ((hb.al _).row (Nat.le_refl _) _))
end Go.Proofs.YtodbjjlgnnjmoaaDoor
