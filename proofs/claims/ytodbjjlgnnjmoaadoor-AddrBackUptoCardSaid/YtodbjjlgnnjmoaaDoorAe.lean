/- The contract of addr.four: a text of version 4 is read. -/
import Derived.Test.YtodbjjlgnnjmoaaDoorAd
import Derived.Test.YtodbjjlgnnjmoaaDoorShelf
import Derived.Test.YtodbjjlgnnjmoaaDoorPa
import Derived.Lib.ConvBytes
namespace Go.Proofs.YtodbjjlgnnjmoaaDoor
open Go.RowKit
theorem built4 : Tryd.prog.built 25 [(0, .int .i64 4)] = some (ac 4 z0) := by kernel_rfl
section
variable {ops : Array Oper} {rest : List Oper} {o : Oper} {a : Act} {w : World} {Q : Exit → Act → World → Prop}
theorem bu25_4 (hgd : o.guard = none) (ho : o.op = .build 25 #[(0, .const (.int .i64 4))]) (h : wpList Tryd.prog ops Q rest (a.put o.dst (adr 4 z0)) w) : wpList Tryd.prog ops Q (o :: rest) a w :=
  bu25 hgd _ ho _ _ (by simp only [List.map_toArray, List.map_cons, List.map_nil, Act.eval]; exact built4) h
end
/-- How 'four' ends. -/
def FourR (s : ByteArray) (w : World) (e : Ending) (w' : World) : Prop :=
  ∃ b : Nat → Int, e = .returned (.tuple #[adr 4 b, .bool (okFour s.data.toList)]) ∧ (okFour s.data.toList = true → b = valFour s.data.toList) ∧ Below w.heap.size w w'
theorem four_len (s : ByteArray) (w : World) (m : Int) (hs : s.size < 4294967281) (hm : w.cell? ⟨0, 0, none⟩ = some (.int .i64 m)) (hlen : ((Lib.countB s ⟨#[46]⟩ : Int) + 1 != 4) = true) :
    Calls Tryd.prog 19 #[.string s] w (FourR s w) := by
  have h0 := block_lt_of_cell hm
  have hm' : ((w.alloc (adrO 0 z0)).alloc (adrO 4 z0)).cell? ⟨0, 0, none⟩ = some (.int .i64 m) := ((((Below.rfl' w).al _).al _).cell h0).trans hm
  have g0 := (HB.new w (ac 0 z0) 25).alloc (adrO 4 z0)
  have g1 := HB.newAt (w := w.alloc (adrO 0 z0)) (g := w.heap.size + 1) (by simp) (ac 4 z0) 25
  go_enter Tryd.func19, Tryd.ntmps19
  go_wp2_with (first | (refine al25 rfl rfl ?_) | (refine bu25_4 rfl rfl ?_) | (refine st25 rfl _ _ rfl _ rfl _ _ _ _ rfl (HB.new _ _ _) ?_; rw [World.setRow_alloc_new]))
  refine (Tryd.strings_Split s ⟨#[46]⟩ m _ hs hm' (by decide)).mono ?_
  rintro e w1 ⟨rfl, rfl⟩
  have g0' := g0.alloc (.cells (List.map Value.string (Lib.splitB ⟨#[46]⟩ 0 (Lib.countB s ⟨#[46]⟩) s)).toArray 9)
  have g1' := g1.alloc (.cells (List.map Value.string (Lib.splitB ⟨#[46]⟩ 0 (Lib.countB s ⟨#[46]⟩) s)).toArray 9)
  clear g0 g1 hm hm'
  go_wp2_with (first | (refine ld25 rfl _ rfl _ rfl _ _ g1' ?_) | (refine st25 rfl _ _ rfl _ rfl _ _ _ _ rfl g0' ?_))
  have hok : okFour s.data.toList = false := by
    have hc := countB_pcs 46 s
    unfold okFour
    have : ((pcs 46 s.data.toList).length == 4) = false := by
      rw [← hc]
      simp only [bne_iff_ne, ne_eq] at hlen
      simp only [beq_eq_false_iff_ne, ne_eq]
      omega
    rw [this]
    rfl
  refine ret25 rfl rfl rfl (g0'.row _) ⟨z0, ?_, fun h => ?_, ((((Below.rfl' _).al _).al _).al _).row (Nat.le_refl _) _⟩
  · rw [hok]; rfl
  · rw [hok] at h; cases h
/-- The address's bytes behind k parts. -/
def fillB (L : List ByteArray) (k : Nat) : Nat → Int := fun i => if i < k then ((val4 ((L.getD i ⟨#[]⟩).data.toList) : Nat) : Int) else 0
theorem conv_bytes (w : World) (s : ByteArray) : ∃ (c : Nat) (w' : World), (convert 9 53 (.string s)).run Tryd.prog w = .ok (.slice (some ⟨w.heap.size, 0, none⟩) s.size c) w' ∧ Below w.heap.size w w' ∧ w'.heap.size = w.heap.size + 1 ∧
    ∀ j, j < s.size → w'.cell? ⟨w.heap.size, j, none⟩ = some (.int .u8 (s.data.toList.getD j 0).toNat) :=
  ⟨_, Lib.bytesWorld w 5 s, Lib.run_convert_string_bytes w 9 53 5 s Tryd.underlying9 Tryd.underlying53 Tryd.underlying5,
    ⟨rfl, rfl, rfl, by rw [Lib.bytesWorld_size]; omega, fun k hk => Lib.bytesWorld_at_old w 5 s k hk⟩,
    Lib.bytesWorld_size w 5 s, fun j hj => Lib.bytesWorld_cell w 5 s j hj⟩
/-- Where a part is none, no four. -/
theorem okFour_no {s : ByteArray} {L : List ByteArray} {k : Nat} {p : ByteArray} (h1 : L.map (·.data.toList) = pcs 46 s.data.toList) (hp : L[k]? = some p) (hn : ok4 p.data.toList = false) : okFour s.data.toList = false := by
  unfold okFour
  rw [← h1]
  have : (L.map (·.data.toList)).all ok4 = false := by
    rw [List.all_eq_false]
    exact ⟨p.data.toList, List.mem_map.2 ⟨p, List.mem_of_getElem? hp, rfl⟩, by simp [hn]⟩
  rw [this]
  simp
theorem okFour_yes {s : ByteArray} {L : List ByteArray} (h1 : L.map (·.data.toList) = pcs 46 s.data.toList) (h4 : L.length = 4) (hok : ∀ j, j < 4 → ok4 (L.getD j ⟨#[]⟩).data.toList = true) : okFour s.data.toList = true := by
  unfold okFour
  rw [← h1]
  simp only [List.length_map, h4, Bool.and_eq_true, List.all_eq_true, List.mem_map]
  refine ⟨rfl, ?_⟩
  rintro x ⟨p, hp, rfl⟩
  obtain ⟨j, hj⟩ := List.getElem?_of_mem hp
  have hlt : j < 4 := by rw [← h4]; exact (List.getElem?_eq_some_iff.1 hj).1
  have := hok j hlt
  rw [List.getD_eq_getElem?_getD, hj] at this
  exact this
theorem fill_end {s : ByteArray} {L : List ByteArray} (h1 : L.map (·.data.toList) = pcs 46 s.data.toList) (h4 : L.length = 4) : fillB L 4 = valFour s.data.toList := by
  funext i
  unfold fillB valFour
  split
  · rename_i hi
    rw [← h1, List.getD_eq_getElem?_getD, List.getD_eq_getElem?_getD, List.getElem?_map, List.getElem?_eq_getElem (by omega)]
    rfl
  · rfl
theorem fill_step {L : List ByteArray} {k n : Nat} {p : ByteArray} (hp : L[k]? = some p) (hk : k < 16) (hv : val4 p.data.toList = n) : (ac 4 (fillB L k)).setIfInBounds (1 + k) (.int .u8 (n : Int)) = ac 4 (fillB L (k + 1)) := by
  rw [ac_set 4 _ k _ hk]
  refine ac_congr 4 fun i _ => ?_
  unfold fillB
  by_cases e : i = k
  · subst e
    rw [if_pos rfl, if_pos (by omega), List.getD_eq_getElem?_getD, hp]
    simp only [Option.getD_some, hv]
  · rw [if_neg e]
    by_cases l : i < k
    · rw [if_pos l, if_pos (by omega)]
    · rw [if_neg l, if_neg (by omega)]
theorem head_get (p : ByteArray) (h : 0 < p.size) : p.data.toList.head? = some p[0] := by
  rw [List.head?_eq_getElem?]
  have h' : 0 < p.data.toList.length := by simpa using h
  rw [List.getElem?_eq_getElem h']
  rfl
theorem take_snocD (l : List UInt8) (j : Nat) (c : UInt8) (hj : j < l.length) (hc : l.getD j 0 = c) : l.take (j + 1) = l.take j ++ [c] := by
  rw [List.take_succ_eq_append_getElem hj]
  rw [List.getD_eq_getElem?_getD, List.getElem?_eq_getElem hj] at hc
  rw [show l[j] = c from hc]
theorem len_size (p : ByteArray) : p.data.toList.length = p.size := by simp
set_option maxRecDepth 100000 in
set_option maxHeartbeats 1000000 in
theorem four_loop (s : ByteArray) (w : World) (m : Int) (hs : s.size < 4294967281) (hm : w.cell? ⟨0, 0, none⟩ = some (.int .i64 m)) (hlen : Lib.countB s ⟨#[46]⟩ = 3) :
    Calls Tryd.prog 19 #[.string s] w (FourR s w) := by
  have h0 := block_lt_of_cell hm
  have hm' : ((w.alloc (adrO 0 z0)).alloc (adrO 4 z0)).cell? ⟨0, 0, none⟩ = some (.int .i64 m) := ((((Below.rfl' w).al _).al _).cell h0).trans hm
  have g0 := (HB.new w (ac 0 z0) 25).alloc (adrO 4 z0)
  have g1 := HB.newAt (w := w.alloc (adrO 0 z0)) (g := w.heap.size + 1) (by simp) (ac 4 z0) 25
  have hsp := Tryd.strings_Split s ⟨#[46]⟩ m _ hs hm' (by decide)
  have hL1 := splitB_pcs 46 s
  rw [hlen] at hsp hL1
  obtain ⟨L, hL⟩ : ∃ L, Lib.splitB ⟨#[46]⟩ 0 3 s = L := ⟨_, rfl⟩
  rw [hL] at hsp hL1
  have hL4 : L.length = 4 := by
    have h1 := congrArg List.length hL1
    rw [List.length_map, ← countB_pcs, hlen] at h1
    exact h1
  have HL1 := Lib.hid hL1
  have HL4 := Lib.hid hL4
  have HSP := Lib.hid hsp
  clear hL hL1 hL4 hsp hlen hm
  go_enter Tryd.func19, Tryd.ntmps19
  go_wp2_with (first | (refine al25 rfl rfl ?_) | (refine bu25_4 rfl rfl ?_) | (refine st25 rfl _ _ rfl _ rfl _ _ _ _ rfl (HB.new _ _ _) ?_; rw [World.setRow_alloc_new]))
  refine HSP.out.mono ?_
  rintro e w1 ⟨rfl, rfl⟩
  have g0' := g0.alloc (.cells (List.map Value.string L).toArray 9)
  have g1' := g1.alloc (.cells (List.map Value.string L).toArray 9)
  have g2' := HB.newAt (w := (w.alloc (adrO 0 z0)).alloc (adrO 4 z0)) (g := w.heap.size + 2) (by simp) (List.map Value.string L).toArray 9
  clear g0 g1 hm' HSP
  go_wp2
  go_loopw [20] (fun i wr => ∃ k : Nat, k ≤ 4 ∧ i = .int .i64 k ∧ Below w.heap.size w wr ∧ HB wr w.heap.size (ac 0 z0) 25 ∧ HB wr (w.heap.size + 1) (ac 4 (fillB L k)) 25 ∧ HB wr (w.heap.size + 2) (List.map Value.string L).toArray 9 ∧ ∀ j, j < k → ok4 (L.getD j ⟨#[]⟩).data.toList = true) (fun i _ => 4 - (intOf i).toNat)
  case atStart => exact ⟨0, by omega, rfl, (((Below.rfl' _).al _).al _).al _, g0', g1', g2', by omega⟩
  case round =>
    obtain ⟨k, hk, rfl, hb, q0, q1, q2, hok⟩ := hrel
    clear g0' g1' g2'
    have HOK := Lib.hid hok
    clear hok
    by_cases hlt : k < 4
    · obtain ⟨p, hp⟩ : ∃ p, L[k]? = some p := ⟨_, List.getElem?_eq_getElem (by have := HL4.out; omega)⟩
      have hc : wr.cell? ⟨w.heap.size + 2, k, none⟩ = some (.string p) := by
        rw [q2.cell k]
        simp [hp]
      have HP := Lib.hid hp
      clear hp
      have hns : ok4 p.data.toList = false → ∀ wx, Below w.heap.size w wx → FourR s w (.returned (.tuple #[adr 4 (fillB L k), .bool false])) (wx.setRow w.heap.size (ac 4 (fillB L k))) := fun h wx hbx => by
        have hf := okFour_no HL1.out HP.out h
        exact ⟨fillB L k, by rw [hf], fun h => (by rw [hf] at h; cases h), hbx.row (Nat.le_refl _) _⟩
      have HNS := Lib.hid hns
      clear hns
      by_cases hp0 : p.size < 1
      · go_wp2_with (first | (refine ld25 rfl _ rfl _ rfl _ _ q1 ?_) | (refine st25 rfl _ _ rfl _ rfl _ _ _ _ rfl q0 ?_))
        exact ret25 rfl rfl rfl (q0.row _) (HNS.out (ok4_len (by rw [len_size]; omega)) _ hb)
      · by_cases hp3 : 3 < p.size
        · go_wp2_with (first | (refine ld25 rfl _ rfl _ rfl _ _ q1 ?_) | (refine st25 rfl _ _ rfl _ rfl _ _ _ _ rfl q0 ?_))
          exact ret25 rfl rfl rfl (q0.row _) (HNS.out (ok4_len (by rw [len_size]; omega)) _ hb)
        · obtain ⟨c, w2, hconv, hb2, hz2, hcells⟩ := conv_bytes wr p
          have HC := Lib.hid hcells
          clear hcells
          have HLN := Lib.hid (len_size p)
          have HHD := Lib.hid (head_get p (by omega))
          by_cases hbad : (p[0].toNat : Int) = 48 ∧ 1 < p.size
          · obtain ⟨hz, hp1⟩ := hbad
            go_wp2_with (first | (refine ld25 rfl _ rfl _ rfl _ _ q1 ?_) | (refine st25 rfl _ _ rfl _ rfl _ _ _ _ rfl q0 ?_))
            refine ret25 rfl rfl rfl (q0.row _) (HNS.out (ok4_len ?_) _ hb)
            rw [HLN.out, HHD.out]
            right; right
            exact ⟨congrArg some (UInt8.toNat_inj.1 (Int.ofNat.inj hz)), by omega⟩
          · have hgood : ¬ (p.data.toList.length < 1 ∨ 3 < p.data.toList.length ∨ (p.data.toList.head? = some 48 ∧ 1 < p.data.toList.length)) := by
              rw [HLN.out, HHD.out]
              rintro (h | h | ⟨h, h'⟩)
              · omega
              · omega
              · refine hbad ⟨?_, by omega⟩
                rw [Option.some.inj h]
                rfl
            have HG := Lib.hid hgood
            clear hgood
            have q0' := q0.below hb2 q0.lt
            have q1' := q1.below hb2 q1.lt
            have q2' := q2.below hb2 q2.lt
            have hb' := hb.con hb2
            clear hb hb2
            rcases (by omega : ¬ (p[0].toNat : Int) = 48 ∨ ((p[0].toNat : Int) = 48 ∧ ¬ 1 < p.size)) with hz | ⟨hz, hp1⟩
            all_goals
              clear hbad
              go_wp2_with (first | (refine ld25 rfl _ rfl _ rfl _ _ q1 ?_) | (refine st25 rfl _ _ rfl _ rfl _ _ _ _ rfl q0 ?_))
              go_loop [8, 47] (fun nn i => ∃ j n : Nat, j ≤ p.size ∧ i = .int .i64 j ∧ nn = .int .i64 n ∧ n ≤ 999 ∧ decGo (p.data.toList.take j) 0 = some n) (fun _ i => 3 - (intOf i).toNat)
              case atStart => exact ⟨0, 0, by omega, rfl, rfl, by omega, rfl⟩
              case round =>
                obtain ⟨j, n, hj, rfl, rfl, hn, hdec⟩ := hrel
                have HD := Lib.hid hdec
                clear hdec
                by_cases hjl : j < p.size
                · have hcj := HC.out j hjl
                  obtain ⟨ch, hch⟩ : ∃ ch, p.data.toList.getD j 0 = ch := ⟨_, rfl⟩
                  rw [hch] at hcj
                  have HCH := Lib.hid hch
                  clear hch
                  have hch8 : ch.toNat ≤ 255 := by have := ch.toNat_lt; omega
                  by_cases hdig : 48 ≤ (ch.toNat : Int) ∧ (ch.toNat : Int) ≤ 57
                  · have hstep : decGo (p.data.toList.take (j + 1)) 0 = some (10 * n + (ch.toNat - 48)) := by
                      rw [take_snocD _ _ _ (by rw [HLN.out]; exact hjl) HCH.out, decGo_snoc, HD.out]
                      simp only [Option.bind_some]
                      rw [if_pos (by omega)]
                    have hle : 10 * n + (ch.toNat - 48) ≤ 999 := by
                      have h1 := decGo_le _ _ _ hstep
                      have h2 : (p.data.toList.take (j + 1)).length ≤ 3 := by rw [List.length_take, HLN.out]; omega
                      have h3 : 10 ^ (p.data.toList.take (j + 1)).length ≤ 10 ^ 3 := Nat.pow_le_pow_right (by omega) h2
                      simp only [Nat.zero_add, Nat.one_mul] at h1
                      omega
                    have HST := Lib.hid hstep
                    clear hstep
                    go_wp2
                    go_round
                    case rel => exact ⟨j + 1, 10 * n + (ch.toNat - 48), by omega, by go_num, by go_num, hle, HST.out⟩
                    case measure => simp [intOf]; omega
                  · have hdn : decGo p.data.toList 0 = none := by
                      have e := List.take_append_drop j p.data.toList
                      rw [← e, List.drop_eq_getElem_cons (by rw [HLN.out]; exact hjl)]
                      refine decGo_none ?_ _ _ _
                      have := HCH.out
                      rw [List.getD_eq_getElem?_getD, List.getElem?_eq_getElem (by rw [HLN.out]; exact hjl)] at this
                      simp only [Option.getD_some] at this
                      rw [this]
                      omega
                    have HDN := Lib.hid hdn
                    clear hdn
                    go_wp2_with (first | (refine ld25 rfl _ rfl _ rfl _ _ q1' ?_) | (refine st25 rfl _ _ rfl _ rfl _ _ _ _ rfl q0' ?_))
                    all_goals exact ret25 rfl rfl rfl (q0'.row _) (HNS.out (ok4_dig HDN.out) _ hb')
                · have hfull : decGo p.data.toList 0 = some n := by
                    have := HD.out
                    rwa [List.take_of_length_le (by rw [HLN.out]; omega)] at this
                  have HF := Lib.hid hfull
                  clear hfull
                  have hcB := q1'.adrB k (by omega)
                  have hfB := q1'.free (1 + k)
                  by_cases hbig : 255 < n
                  · go_wp2_with (first | (refine ld25 rfl _ rfl _ rfl _ _ q1' ?_) | (refine st25 rfl _ _ rfl _ rfl _ _ _ _ rfl q0' ?_))
                    exact ret25 rfl rfl rfl (q0'.row _) (HNS.out (ok4_big HF.out hbig) _ hb')
                  · go_wp2
                    go_roundw
                    case rel =>
                      obtain ⟨hy1, hy2⟩ := ok4_yes HG.out HF.out hbig
                      refine ⟨k + 1, by omega, by go_num, hb'.setCell (by simp) _, q0'.setOther (by simp) _, ?_, q2'.setOther (by simp) _, fun i hi => ?_⟩
                      · have hs1 := q1'.set (1 + k) (.int .u8 (n : Int))
                        rw [fill_step HP.out (by omega) hy2] at hs1
                        exact hs1
                      · rcases Nat.lt_succ_iff_lt_or_eq.1 hi with h | rfl
                        · exact HOK.out i h
                        · rw [List.getD_eq_getElem?_getD, HP.out]
                          exact hy1
                    case measure => simp [intOf]; omega
    · obtain rfl : k = 4 := by omega
      have hfin := okFour_yes HL1.out HL4.out HOK.out
      rw [fill_end HL1.out HL4.out] at q1
      have HFIN := Lib.hid hfin
      clear hfin
      go_wp2_with (first | (refine ld25 rfl _ rfl _ rfl _ _ q1 ?_) | (refine st25 rfl _ _ rfl _ rfl _ _ _ _ rfl q0 ?_))
      exact ret25 rfl rfl rfl (q0.row _) ⟨_, by rw [HFIN.out]; rfl, fun _ => rfl, hb.row (Nat.le_refl _) _⟩
theorem four_any (s : ByteArray) (w : World) (m : Int) (hs : s.size < 4294967281) (hm : w.cell? ⟨0, 0, none⟩ = some (.int .i64 m)) :
    Calls Tryd.prog 19 #[.string s] w (FourR s w) := by
  by_cases h : Lib.countB s ⟨#[46]⟩ = 3
  · exact four_loop s w m hs hm h
  · refine four_len s w m hs hm ?_
    rw [bne_iff_ne]
    omega
end Go.Proofs.YtodbjjlgnnjmoaaDoor
