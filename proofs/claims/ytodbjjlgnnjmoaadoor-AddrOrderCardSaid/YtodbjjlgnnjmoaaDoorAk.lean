/- The contract of addr.Print: the text of every address. -/
import Derived.Test.YtodbjjlgnnjmoaaDoorAj
namespace Go.Proofs.YtodbjjlgnnjmoaaDoor
open Go.RowKit
/-- Group j, written, is the one digit 0 just if it is nought. -/
theorem hexTo_len : ∀ (j v : Nat) (ds : List UInt8), ds.length < (hexTo j v ds).length
  | 0, v, ds => by simp [hexTo]
  | j + 1, v, ds => by
    unfold hexTo
    split
    · simp
    · have := hexTo_len j (v / 16) (dgt (v % 16) :: ds)
      simp at this
      omega
theorem hexTo_le : ∀ (j v : Nat) (ds : List UInt8), (hexTo j v ds).length ≤ ds.length + j + 1
  | 0, v, ds => by simp [hexTo]
  | j + 1, v, ds => by
    unfold hexTo
    split
    · simp
    · have := hexTo_le j (v / 16) (dgt (v % 16) :: ds)
      simp at this
      omega
theorem hexT_zero (g : Nat) : (hexT g == [48]) = (g == 0) := by
  by_cases h : g < 16
  · unfold hexT
    rw [hexTo_last h]
    have : ∀ x : Fin 16, ([dgt x.val] == [48]) = (x.val == 0) := by decide
    exact this ⟨g, h⟩
  · have h1 : (g == 0) = false := by simp; omega
    rw [h1]
    unfold hexT
    rw [hexTo_step (by omega)]
    have := hexTo_len 2 (g / 16) [dgt (g % 16)]
    apply Bool.eq_false_iff.2
    intro he
    rw [eq_of_beq he] at this
    simp at this
/-- The text of groups, with the two colons in place of the longest run of groups of nought. -/
def txts (b : Nat → Int) : List (List UInt8) := (List.range 8).map fun i => hexT (grp b i)
def text6 (b : Nat → Int) : List UInt8 :=
  if (bestGo (zG b) 8).2 = 1 then Lib.join (txts b) [58]
  else Lib.join ((txts b).take (bestGo (zG b) 8).1) [58] ++ [58, 58] ++ Lib.join ((txts b).drop ((bestGo (zG b) 8).1 + (bestGo (zG b) 8).2)) [58]
theorem hexs_txts (b : Nat → Int) : (hexs b 8).map (·.data.toList) = txts b := by
  unfold hexs txts
  rw [List.map_map]
  rfl
theorem join_any (b : Nat → Int) (B o n c : Nat) (W : World) (q : HB W B (Lib.cellsOf (hexs b 8) 8) 9) (h : o + n ≤ 8) (hc : n ≤ c) :
    Calls Tryd.prog 26 #[.slice (some ⟨B, o, none⟩) n c, .string ⟨#[58]⟩] W fun e w' => e = .returned (.string ⟨(Lib.join (((txts b).drop o).take n) [58]).toArray⟩) ∧ Below W.heap.size W w' := by
  have hfull := Lib.cellsOf_full (hexs b 8)
  rw [hexs_len] at hfull
  rw [hfull] at q
  have hl : (((hexs b 8).drop o).take n).length = n := by
    rw [List.length_take, List.length_drop, hexs_len]
    omega
  have hm : (((hexs b 8).drop o).take n).map (·.data.toList) = ((txts b).drop o).take n := by rw [List.map_take, List.map_drop, hexs_txts]
  have hj := Tryd.strings_Join B o c (((hexs b 8).drop o).take n) ⟨#[58]⟩ W (fun j x hx => by
    have hjn : j < n := by
      have := (List.getElem?_eq_some_iff.1 hx).1
      rwa [hl] at this
    rw [List.getElem?_take, if_pos hjn, List.getElem?_drop] at hx
    rw [q.cell (o + j), List.getElem?_toArray, List.getElem?_map, hx]
    rfl) q.lt (by omega) (by omega) (by
    have h1 := join_le 4 ((((hexs b 8).drop o).take n).map (·.data.toList)) (⟨#[58]⟩ : ByteArray).data.toList (fun x hx => by
      rw [hm] at hx
      obtain ⟨i, _, rfl⟩ := List.mem_map.1 (List.mem_of_mem_drop (List.mem_of_mem_take hx))
      have := hexTo_le 3 (grp b i) []
      exact this)
    rw [List.length_map, hl] at h1
    simp only [List.length_cons, List.length_nil] at h1
    exact Nat.le_trans h1 (by omega))
  rw [hl, hm] at hj
  exact hj
set_option maxRecDepth 100000 in
set_option maxHeartbeats 2000000 in
theorem print_6 (b : Nat → Int) (hb8 : ∀ i, 0 ≤ b i ∧ b i ≤ 255) (w : World) (m : Int) (he : Env m w) (hval : validF 6 b = true) :
    Calls Tryd.prog 11 #[adr 6 b] w fun e w' => e = .returned (.string ⟨(text6 b).toArray⟩) ∧ Below w.heap.size w w' := by
  have h0 := HB.new w (ac 6 b) 25
  have h1 := (h0.alloc (adrO 6 b)).alloc (adrO 6 b)
  have hv := h1.adrV
  have h2 := h1.alloc (.cells (Lib.cellsOf [] 8) 9)
  have hz : (((w.alloc (adrO 6 b)).alloc (adrO 6 b)).alloc (adrO 6 b)).heap.size = w.heap.size + 3 := by simp
  have h3 := HB.newAt hz (Lib.cellsOf [] 8) 9
  have hmk := mk46_8
  have HE := Lib.hid he
  clear he
  go_enter Tryd.func11, Tryd.ntmps11
  go_wp2_with (first | (go_at_call 12; refine (valid_any _ _ _).mono ?_; rintro e w' ⟨rfl, rfl⟩) | (refine ld25 rfl _ rfl _ rfl _ _ h0 ?_))
  go_loopw [38] (fun i wr => ∃ k : Nat, k ≤ 8 ∧ i = .int .i64 k ∧ Below w.heap.size w wr ∧ HB wr w.heap.size (ac 6 b) 25 ∧ HB wr (w.heap.size + 3) (Lib.cellsOf (hexs b k) 8) 9) (fun i _ => 8 - (intOf i).toNat)
  case atStart => exact ⟨0, by omega, rfl, ((((Below.rfl' _).al _).al _).al _).al _, h2, h3⟩
  case round =>
    obtain ⟨k, hk, rfl, hb, q0, q3⟩ := hrel
    clear h0 h1 h2 h3 hz hv hmk
    by_cases hlt : k < 8
    · have hc := q0.adrB (2 * k) (by omega)
      have hc2 := q0.adrB (2 * k + 1) (by omega)
      have hbk := hb8 (2 * k)
      have hbk2 := hb8 (2 * k + 1)
      have HE' := Lib.hid (HE.out.b hb)
      have i1 : (k : Int) < 8 := by omega
      have i2 : 2 * (k : Int) < 16 := by omega
      have i3 : 2 * (k : Int) + 1 < 16 := by omega
      have i4 : 0 ≤ 2 * (k : Int) := by omega
      have i5 : 0 ≤ 2 * (k : Int) + 1 := by omega
      have i6 : IntKind.i64.wrap (2 * (k : Int)) = 2 * k := IntWalk.i64_in _ (by omega)
      have i7 : IntKind.i64.wrap (2 * (k : Int) + 1) = 2 * k + 1 := IntWalk.i64_in _ (by omega)
      have i8 : (2 * (k : Int)).toNat = 2 * k := by omega
      have i9 : (2 * (k : Int) + 1).toNat = 2 * k + 1 := by omega
      have i10 : bits BinOp.or IntKind.u64 (IntKind.u64.wrap (IntKind.u64.wrap (b (2 * k)) * 256)) (IntKind.u64.wrap (b (2 * k + 1))) = ((grp b k : Nat) : Int) := grp_or hbk hbk2
      have hg : grp b k < 65536 := by unfold grp; omega
      go_wp2
      go_region_with (go_at_call 27; go_must (refine (fmt_any (grp b k) hg _ HE'.out.drew.ht).mono ?_); rintro e w1 ⟨rfl, hb1⟩; have r3 := q3.drew.below hb1 q3.drew.lt; have hcs := (r3.cell k).trans (hexs_next b hlt); have hfs := r3.free k)
      all_goals
        go_wp2
        go_roundw
        case rel =>
          have r0 := q0.drew.below hb1 q0.drew.lt
          have hb2 := hb.drew.con hb1
          refine ⟨k + 1, by omega, by go_num, hb2.setCell (by simp) _, r0.setOther (by simp) _, ?_⟩
          have hs := r3.set k (.string ⟨(hexT (grp b k)).toArray⟩)
          rw [hexs_set b hlt] at hs
          exact hs
        case measure => simp [intOf]; omega
    · obtain rfl : k = 8 := by omega
      have HST : Hid (∀ j, j < 8 → ∃ s : ByteArray, wr.cell? ⟨w.heap.size + 3, j, none⟩ = some (.string s) ∧ (s.toList == [48]) = zG b j) := fun j hj => by
        refine ⟨⟨(hexT (grp b j)).toArray⟩, ?_, ?_⟩
        · have hfull := Lib.cellsOf_full (hexs b 8)
          rw [hexs_len] at hfull
          rw [q3.cell j, hfull, List.getElem?_toArray, List.getElem?_map]
          unfold hexs
          rw [List.getElem?_map, List.getElem?_range hj]
          rfl
        · rw [Lib.toList_data]
          exact hexT_zero (grp b j)
      go_wp2
      go_loop [7, 8, 63] (fun f mo i => ∃ k : Nat, k ≤ 8 ∧ i = .int .i64 k ∧ f = .int .i64 ((bestGo (zG b) k).1 : Nat) ∧ mo = .int .i64 ((bestGo (zG b) k).2 : Nat)) (fun _ _ i => 8 - (intOf i).toNat)
      case atStart => exact ⟨0, by omega, rfl, rfl, rfl⟩
      case round =>
        obtain ⟨k, hk, rfl, rfl, rfl⟩ := hrel
        have hbe := bestGo_le (zG b) k hk
        by_cases hlt : k < 8
        · go_wp2
          go_loop [10] (fun nn => ∃ n : Nat, nn = .int .i64 n ∧ k + n ≤ 8 ∧ ∀ t, t < n → zG b (k + t) = true) (fun nn => 8 - (intOf nn).toNat)
          case atStart => exact ⟨0, rfl, by omega, by omega⟩
          case round =>
            obtain ⟨n, rfl, hn, hz⟩ := hrel
            have HZ := Lib.hid hz
            clear hz
            by_cases hl : k + n < 8
            · obtain ⟨sj, hcj, hsj⟩ := HST.out (k + n) hl
              cases hzz : zG b (k + n)
              · rw [hzz] at hsj
                have hrun := zrun_eq (z := zG b) hn HZ.out (.inr hzz)
                have HR := Lib.hid hrun
                clear hrun hzz
                go_wp2
                · have hgt : (bestGo (zG b) k).2 < n := by assumption
                  go_round
                  case rel => refine ⟨_, _, _, _, _, ⟨k + 1, ?_, ?_, ?_, ?_⟩, rfl, rfl, rfl, rfl, rfl⟩; omega; go_num; rw [best_new HR.out hgt]; rw [best_new HR.out hgt]
                  case measure => simp [intOf]; omega
                · have hgt : ¬ (bestGo (zG b) k).2 < n := by assumption
                  go_round
                  case rel => refine ⟨_, _, _, _, _, ⟨k + 1, ?_, ?_, ?_, ?_⟩, rfl, rfl, rfl, rfl, rfl⟩; omega; go_num; rw [best_old HR.out hgt]; rw [best_old HR.out hgt]
                  case measure => simp [intOf]; omega
              · rw [hzz] at hsj
                have HZZ := Lib.hid hzz
                clear hzz
                go_wp2
                go_round
                case rel =>
                  refine ⟨n + 1, by go_num, by omega, fun t ht => ?_⟩
                  rcases Nat.lt_succ_iff_lt_or_eq.1 ht with h | rfl
                  · exact HZ.out t h
                  · exact HZZ.out
                case measure => simp [intOf]; omega
            · have hrun := zrun_eq (z := zG b) hn HZ.out (.inl (by omega))
              have HR := Lib.hid hrun
              clear hrun
              go_wp2
              · have hgt : (bestGo (zG b) k).2 < n := by assumption
                go_round
                case rel => refine ⟨_, _, _, _, _, ⟨k + 1, ?_, ?_, ?_, ?_⟩, rfl, rfl, rfl, rfl, rfl⟩; omega; go_num; rw [best_new HR.out hgt]; rw [best_new HR.out hgt]
                case measure => simp [intOf]; omega
              · have hgt : ¬ (bestGo (zG b) k).2 < n := by assumption
                go_round
                case rel => refine ⟨_, _, _, _, _, ⟨k + 1, ?_, ?_, ?_, ?_⟩, rfl, rfl, rfl, rfl, rfl⟩; omega; go_num; rw [best_old HR.out hgt]; rw [best_old HR.out hgt]
                case measure => simp [intOf]; omega
        · obtain rfl : k = 8 := by omega
          obtain ⟨fr, hfr⟩ : ∃ fr, (bestGo (zG b) 8).1 = fr := ⟨_, rfl⟩
          obtain ⟨mo, hmo⟩ : ∃ mo, (bestGo (zG b) 8).2 = mo := ⟨_, rfl⟩
          rw [hfr, hmo] at hbe ⊢
          have HFM := Lib.hid (And.intro hfr hmo)
          clear hfr hmo
          by_cases h1 : mo = 1
          · subst h1
            have HJ := Lib.hid (join_any b (w.heap.size + 3) 0 8 8 wr q3 (by omega) (by omega))
            have HX : Hid (text6 b = Lib.join (((txts b).drop 0).take 8) [58]) := by
              show text6 b = _
              unfold text6
              rw [if_pos HFM.out.2]
              rfl
            go_wp2_with (go_at_call 26; refine HJ.out.mono ?_; rintro e w1 ⟨rfl, hb1⟩)
            go_ret
            rw [HX.out]
            exact ⟨rfl, hb.con hb1⟩
          · have HX : Hid (text6 b = Lib.join (((txts b).drop 0).take fr) [58] ++ [58, 58] ++ Lib.join (((txts b).drop (fr + mo)).take (8 - (fr + mo))) [58]) := by
              show text6 b = _
              unfold text6
              rw [if_neg (by rw [HFM.out.2]; exact h1), HFM.out.1, HFM.out.2]
              rw [List.drop_zero, List.take_of_length_le (l := (txts b).drop (fr + mo)) (by simp [txts])]
            have p1 : IntKind.i64.wrap ((fr : Int) + mo) = (fr : Int) + mo := IntWalk.i64_in _ (by omega)
            have p2 : ((fr : Int) + mo).toNat = fr + mo := by omega
            have p3 : (fr : Int) + mo ≤ 8 := by omega
            have p4 : (0 : Int) ≤ (fr : Int) + mo := by omega
            have p5 : fr ≤ 8 := by omega
            have p6 : fr + mo ≤ 8 := by omega
            have h1' : ¬ (mo : Int) = 1 := by omega
            have p7 : (fr : Int) ≤ 8 := by omega
            have LE : ∀ o n : Nat, n ≤ 8 → (Lib.join (((txts b).drop o).take n) [58]).length ≤ 40 := fun o n hn => by
              have h := join_le 4 (((txts b).drop o).take n) [58] (fun x hx => by
                obtain ⟨i, _, rfl⟩ := List.mem_map.1 (List.mem_of_mem_drop (List.mem_of_mem_take hx))
                exact hexTo_le 3 (grp b i) [])
              have h2 : (((txts b).drop o).take n).length ≤ 8 := by rw [List.length_take]; omega
              simp only [List.length_cons, List.length_nil] at h
              omega
            obtain ⟨X, hX⟩ : ∃ X, Lib.join (((txts b).drop 0).take fr) [58] = X := ⟨_, rfl⟩
            obtain ⟨Y, hY⟩ : ∃ Y, Lib.join (((txts b).drop (fr + mo)).take (8 - (fr + mo))) [58] = Y := ⟨_, rfl⟩
            have hXl := LE 0 fr (by omega)
            have hYl := LE (fr + mo) (8 - (fr + mo)) (by omega)
            rw [hX] at hXl
            rw [hY] at hYl
            rw [hX, hY] at HX
            have ad1 : ∀ W : World, (Op.stringOp .add ⟨X.toArray⟩ ⟨#[58, 58]⟩).run Tryd.prog W = .ok (.string ⟨(X ++ [58, 58]).toArray⟩) W := fun W => run_string_add_lists W X [58, 58] (by omega) (by simp)
            have ad2 : ∀ W : World, (Op.stringOp .add ⟨(X ++ [58, 58]).toArray⟩ ⟨Y.toArray⟩).run Tryd.prog W = .ok (.string ⟨(X ++ [58, 58] ++ Y).toArray⟩) W := fun W => run_string_add_lists W (X ++ [58, 58]) Y (by simp; omega) (by omega)
            have J1 := Lib.hid (join_any b (w.heap.size + 3) 0 fr 8 wr.drew q3.drew (by omega) (by omega))
            have J2 : Hid (∀ W, HB W (w.heap.size + 3) (Lib.cellsOf (hexs b 8) 8) 9 → Calls Tryd.prog 26 #[.slice (some ⟨w.heap.size + 3, fr + mo, none⟩) (8 - (fr + mo)) (8 - (fr + mo)), .string ⟨#[58]⟩] W fun e w' => e = .returned (.string ⟨Y.toArray⟩) ∧ Below W.heap.size W w') := fun W q => by
              rw [← hY]
              exact join_any b (w.heap.size + 3) (fr + mo) (8 - (fr + mo)) (8 - (fr + mo)) W q (by omega) (by omega)
            rw [hX] at J1
            have q3' := q3.drew
            have mark1 : Hid True := trivial
            by_cases h8 : fr + mo = 8
            · have h8i : (fr : Int) + mo = 8 := by omega
              have hY0 : Y = [] := by
                rw [← hY, h8]
                rfl
              subst hY0
              have J3 : Hid (∀ (a : Option Addr) (W : World), Calls Tryd.prog 26 #[.slice a 0 0, .string ⟨#[58]⟩] W fun e w' => e = .returned (.string ⟨#[]⟩) ∧ w' = W) := fun a W => Tryd.strings_Join_none a 0 ⟨#[58]⟩ W
              clear LE hX hY J2
              go_wp2_with fail
              go_region_with (first
                | (go_at_call 26; clear mark1; refine J1.out.mono ?_; rintro e w1 ⟨rfl, hb1⟩)
                | (go_at_call 26; refine (J3.out _ _).mono ?_; rintro e w2 ⟨rfl, rfl⟩))
              all_goals
                go_wp2_with fail
                go_ret
                rw [HX.out, List.append_assoc]
                exact ⟨rfl, hb.drew.con hb1⟩
            · have h8i : ¬ (fr : Int) + mo = 8 := by omega
              have h8l : fr + mo < 8 := by omega
              have h8m : (fr : Int) + mo < 8 := by omega
              have h8n : ¬ 8 = fr + mo := by omega
              have h8o : ¬ 8 - (fr + mo) = 0 := by omega
              clear LE hX hY
              go_wp2_with fail
              go_region_with (first
                | (go_at_call 26; clear mark1; refine J1.out.mono ?_; rintro e w1 ⟨rfl, hb1⟩; have q4 := q3'.below hb1 q3'.lt)
                | (go_at_call 26; refine (J2.out _ q4).mono ?_; rintro e w2 ⟨rfl, hb2⟩))
              all_goals
                go_wp2_with fail
                go_ret
                rw [HX.out, List.append_assoc]
                exact ⟨rfl, (hb.drew.con hb1).con hb2⟩
/-- What Print answers. -/
def printT (v : Int) (b : Nat → Int) : List UInt8 := if validF v b then (if v = 4 then Lib.join ((decs b 4).map (·.data.toList)) [46] else text6 b) else []
theorem validF_46 {v : Int} {b : Nat → Int} (h : validF v b = true) : v = 4 ∨ v = 6 := by
  unfold validF at h
  by_cases h4 : v = 4
  · exact .inl h4
  · by_cases h6 : v = 6
    · exact .inr h6
    · simp [h4, h6, bitsF] at h
theorem print_any (v : Int) (b : Nat → Int) (hb8 : ∀ i, 0 ≤ b i ∧ b i ≤ 255) (w : World) (m : Int) (he : Env m w) :
    Calls Tryd.prog 11 #[adr v b] w fun e w' => e = .returned (.string ⟨(printT v b).toArray⟩) ∧ Below w.heap.size w w' := by
  cases hv : validF v b with
  | false =>
    have : printT v b = [] := by unfold printT; rw [hv]; rfl
    rw [this]
    exact print_no v b hv w
  | true =>
    rcases validF_46 hv with rfl | rfl
    · have : printT 4 b = Lib.join ((decs b 4).map (·.data.toList)) [46] := by unfold printT; rw [hv]; rfl
      rw [this]
      exact print_4 b hb8 hv w m he
    · have : printT 6 b = text6 b := by unfold printT; rw [hv]; rfl
      rw [this]
      exact print_6 b hb8 w m he hv
end Go.Proofs.YtodbjjlgnnjmoaaDoor
