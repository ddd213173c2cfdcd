/- AddrParses: what the reference reads is what Parse reads. -/
import Derived.Test.YtodbjjlgnnjmoaaDoorRf
import Derived.Test.YtodbjjlgnnjmoaaDoorAm
namespace Go.Proofs.YtodbjjlgnnjmoaaDoor
open Go.RowKit
theorem colon_has : ∀ l : List UInt8, colon l = hasF l 58
  | [] => rfl
  | b :: l => by
    have ih := colon_has l
    unfold colon hasF at ih ⊢
    rw [Lib.indexByte, List.any_cons]
    by_cases hb : (b == 58) = true
    · rw [if_pos hb, hb]
      rfl
    · rw [if_neg hb]
      have hf : (b == 58) = false := by simpa using hb
      rw [hf, Bool.false_or, ← ih]
      have hge := Lib.indexByte_ge l 58
      by_cases h1 : Lib.indexByte l 58 = -1
      · rw [h1]
        rfl
      · have h2 : (Lib.indexByte l 58 == -1) = false := by simpa using h1
        rw [h2]
        simp only [Bool.false_eq_true, if_false]
        have h3 : 0 ≤ Lib.indexByte l 58 := by omega
        rw [decide_eq_true h3, decide_eq_true (by omega)]
theorem rparse_b (s : ByteArray) (w : World) (hs : s.size < 4294967281) : Calls Tryd.prog 10 #[.string s] w (ParseR s w) := by
  refine (rparse_any s w hs).mono ?_
  rintro e w' ⟨hb, h1, h2⟩
  refine ⟨?_, hb⟩
  have hc := colon_has s.data.toList
  cases hh : hasF s.data.toList 58
  · rw [(h2 hh).1]
    unfold pV pB pE pOK
    rw [hc, hh]
    simp only [Bool.false_eq_true, if_false]
  · rw [(h1 hh).1]
    unfold pV pB pE pOK
    rw [hc, hh]
    simp only [if_true]
theorem eqA_self (v : Int) (b : Nat → Int) : eqA v b v b = true := by
  unfold eqA eqB
  simp
set_option maxRecDepth 100000 in
theorem parses_any (s : ByteArray) (hs : s.size < 4294967281) (w : World) (m : Int) (he : Env m w) :
    Calls Tryd.prog 3 #[.string s] w fun e w' => e = .returned (.bool true) ∧ Below w.heap.size w w' := by
  have e25 := eq25
  have HP := Lib.hid (fun w m h => parse_any s w m hs h)
  obtain ⟨v, hv⟩ : ∃ v, pV s.data.toList = v := ⟨_, rfl⟩
  obtain ⟨b, hbb⟩ : ∃ b, pB s.data.toList = b := ⟨_, rfl⟩
  obtain ⟨x, hx⟩ : ∃ x, pE s.data.toList = x := ⟨_, rfl⟩
  have H1 : Hid (∀ w m, w.cell? ⟨0, 0, none⟩ = some (.int .i64 m) → Calls Tryd.prog 9 #[.string s] w fun e w' => e = .returned (.tuple #[adr v b, .int .i64 x]) ∧ Below w.heap.size w w') := fun w m h => by
    rw [← hv, ← hbb, ← hx]
    exact parse_any s w m hs h
  have H2 : Hid (∀ w, Calls Tryd.prog 10 #[.string s] w fun e w' => e = .returned (.tuple #[adr v b, .int .i64 x]) ∧ Below w.heap.size w w') := fun w => by
    rw [← hv, ← hbb, ← hx]
    exact rparse_b s w hs
  have HSELF := Lib.hid (eqA_self v b)
  clear hv hbb hx HP
  go_enter Tryd.func3, Tryd.ntmps3
  go_wp2_with fail
  refine (alive_any _ m he).mono ?_
  rintro e w1 ⟨rfl, hb1⟩
  have he1 := he.b hb1
  clear he
  go_wp2_with fail
  refine (H1.out _ m he1.hm).mono ?_
  rintro e w2 ⟨rfl, hb2⟩
  have hb := hb1.con hb2
  have q1 := HB.new w2 (ac v b) 25
  clear hb1 hb2 he1
  go_wp2_with (first | (refine al25 rfl rfl ?_) | (refine st25 rfl _ _ rfl _ rfl _ _ _ _ rfl (HB.new _ _ _) ?_; rw [World.setRow_alloc_new]))
  refine (H2.out _).mono ?_
  rintro e w3 ⟨rfl, hb3⟩
  have q1 := (q1.below hb3 q1.lt).alloc (adrO v b)
  have q2 := HB.new w3 (ac v b) 25
  have hb := ((hb.al (adrO v b)).con hb3).al (adrO v b)
  clear hb3
  go_wp2_with (first | (refine al25 rfl rfl ?_) | (refine st25 rfl _ _ rfl _ rfl _ _ _ _ rfl (HB.new _ _ _) ?_; rw [World.setRow_alloc_new]) | (refine ld25 rfl _ rfl _ rfl _ _ q1 ?_) | (refine ld25 rfl _ rfl _ rfl _ _ q2 ?_))
  go_ret
  exact ⟨rfl, hb⟩
end Go.Proofs.YtodbjjlgnnjmoaaDoor
