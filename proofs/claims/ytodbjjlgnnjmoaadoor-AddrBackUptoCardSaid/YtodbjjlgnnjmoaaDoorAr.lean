/- AddrKinds: plain law. -/
import Derived.Test.YtodbjjlgnnjmoaaDoorAq
namespace Go.Proofs.YtodbjjlgnnjmoaaDoor
open Go.RowKit
abbrev ffx : Nat → Int := fun i => if i = 0 then 255 else 0
theorem fourB_255 {x y z u : Int} (hx : 0 ≤ x ∧ x ≤ 255) (hy : 0 ≤ y ∧ y ≤ 255) (hz : 0 ≤ z ∧ z ≤ 255) (hu : 0 ≤ u ∧ u ≤ 255) : ∀ i, 0 ≤ fourB x y z u i ∧ fourB x y z u i ≤ 255
  | 0 => hx
  | 1 => hy
  | 2 => hz
  | 3 => hu
  | _ + 4 => by simp [fourB]
theorem bool_eq {x : Bool} {p : Prop} [Decidable p] (h : x = true ↔ p) : x = decide p := by
  by_cases hp : p
  · rw [h.2 hp]; simp [hp]
  · have : x ≠ true := fun e => hp (h.1 e)
    simp [hp, this]
theorem bool_eq2 {x y : Bool} (h : x = true ↔ y = true) : x = y := by
  cases x <;> cases y <;> simp_all
/-- What the nets say of a kind. -/
structure KindsOK (v : Int) (b : Nat → Int) : Prop where
  k2 : (kindF v b == 2) = (withinF v b 4 (fourB 127 0 0 0) 8 || withinF v b 6 oneB 128)
  k3 : (kindF v b == 3) = (withinF v b 4 (fourB 224 0 0 0) 4 || withinF v b 6 ffx 8)
  k1 : (kindF v b == 1) = (withinF v b 4 (fourB 0 0 0 0) 32 || withinF v b 6 z0 128)
  k4 : (kindF v b == 4) = withinF v b 4 (fourB 255 255 255 255) 32
  lo : 1 ≤ kindF v b
  hi : kindF v b ≤ 5
theorem w44 {b c : Nat → Int} {n : Int} (h : tailZ b = true) (hc : tailZ c = true) (h0 : 0 ≤ n) (h1 : n ≤ 32) : withinF 4 b 4 c n = eqB (maskF n b) (maskF n c) := by
  unfold withinF
  rw [maskOK_4, maskOK_4, h, hc, eqA_44]
  simp [h0, h1]
theorem w46 {b c : Nat → Int} {n : Int} : withinF 4 b 6 c n = false := by
  unfold withinF
  rw [eqA_46]
  simp
theorem w64 {b c : Nat → Int} {n : Int} : withinF 6 b 4 c n = false := by
  unfold withinF
  rw [eqA_64]
  simp
theorem w66 {b c : Nat → Int} {n : Int} (h0 : 0 ≤ n) (h1 : n ≤ 128) : withinF 6 b 6 c n = eqB (maskF n b) (maskF n c) := by
  unfold withinF
  rw [maskOK_6, maskOK_6, eqA_66]
  simp [h0, h1]
theorem head1 {b c : Nat → Int} : headB 1 b c ↔ b 0 = c 0 := by
  constructor
  · intro h; exact h 0 (by omega)
  · intro h i hi
    obtain rfl : i = 0 := by omega
    exact h
theorem head4 {b : Nat → Int} (h : tailZ b = true) {c : Nat → Int} (hc : tailZ c = true) : headB 4 b c ↔ eqB b c = true := by
  rw [eqB_iff]
  rw [tailZ_iff] at h hc
  constructor
  · intro hh i hi
    by_cases h4 : i < 4
    · exact hh i h4
    · have e1 := h (i - 4) (by omega)
      have e2 := hc (i - 4) (by omega)
      rw [show 4 + (i - 4) = i by omega] at e1 e2
      rw [e1, e2]
  · intro hh i hi
    exact hh i (by omega)
theorem mask4 {b : Nat → Int} (hb : ∀ i, 0 ≤ b i ∧ b i ≤ 255) : eqB (maskF 4 b) (maskF 4 (fourB 224 0 0 0)) = true ↔ (224 ≤ b 0 ∧ b 0 ≤ 239) := by
  have hc := fourB_255 (x := 224) (y := 0) (z := 0) (u := 0) (by omega) (by omega) (by omega) (by omega)
  rw [eqB_iff, ← mB_4 (hb 0)]
  constructor
  · intro h
    exact (h 0 (by omega)).trans (by decide +kernel)
  · intro h i hi
    cases i with
    | zero => exact h.trans (by decide +kernel)
    | succ i => rw [maskF_none hb (by omega), maskF_none hc (by omega)]
theorem eqB_at {b c : Nat → Int} (h : eqB b c = true) (i : Nat) (hi : i < 16) : b i = c i := eqB_iff.1 h i hi
theorem kinds_ok (v : Int) (b : Nat → Int) (hb : ∀ i, 0 ≤ b i ∧ b i ≤ 255) (hv : validF v b = true) : KindsOK v b := by
  rcases validF_46 hv with rfl | rfl
  · have ht : tailZ b = true := by rwa [valid_4] at hv
    have t1 : tailZ (fourB 127 0 0 0) = true := by decide +kernel
    have t2 : tailZ (fourB 224 0 0 0) = true := by decide +kernel
    have t3 : tailZ (fourB 0 0 0 0) = true := by decide +kernel
    have t4 : tailZ (fourB 255 255 255 255) = true := by decide +kernel
    have f1 := fourB_255 (x := 127) (y := 0) (z := 0) (u := 0) (by omega) (by omega) (by omega) (by omega)
    have f3 := fourB_255 (x := 0) (y := 0) (z := 0) (u := 0) (by omega) (by omega) (by omega) (by omega)
    have f4 := fourB_255 (x := 255) (y := 255) (z := 255) (u := 255) (by omega) (by omega) (by omega) (by omega)
    have e1 : withinF 4 b 4 (fourB 127 0 0 0) 8 = decide (b 0 = 127) := by
      rw [w44 ht t1 (by omega) (by omega)]
      exact bool_eq ((mask_head hb f1 (k := 1) (by omega) (by omega)).trans head1)
    have e2 : withinF 4 b 4 (fourB 224 0 0 0) 4 = decide (224 ≤ b 0 ∧ b 0 ≤ 239) := by
      rw [w44 ht t2 (by omega) (by omega)]
      exact bool_eq (mask4 hb)
    have e3 : withinF 4 b 4 (fourB 0 0 0 0) 32 = eqB b z0 := by
      rw [w44 ht t3 (by omega) (by omega)]
      refine bool_eq2 ((mask_head hb f3 (k := 4) (by omega) (by omega)).trans ((head4 ht t3).trans ?_))
      rw [eqB_iff, eqB_iff]
      have : ∀ i, i < 16 → fourB 0 0 0 0 i = z0 i := by decide +kernel
      constructor
      · intro h i hi; rw [h i hi, this i hi]
      · intro h i hi; rw [h i hi, this i hi]
    have e4 : withinF 4 b 4 (fourB 255 255 255 255) 32 = eqB b ffB := by
      rw [w44 ht t4 (by omega) (by omega)]
      refine bool_eq2 ((mask_head hb f4 (k := 4) (by omega) (by omega)).trans ((head4 ht t4).trans ?_))
      rw [eqB_iff, eqB_iff]
      have : ∀ i, i < 16 → fourB 255 255 255 255 i = ffB i := by decide +kernel
      constructor
      · intro h i hi; rw [h i hi, this i hi]
      · intro h i hi; rw [h i hi, this i hi]
    have hk : kindF 4 b = if eqB b z0 then 1 else if b 0 = 127 then 2 else if 224 ≤ b 0 ∧ b 0 ≤ 239 then 3 else if eqB b ffB then 4 else 5 := by
      unfold kindF
      rw [hv]
      simp
    have hz : eqB b z0 = true → b 0 = 0 := fun h => eqB_at h 0 (by omega)
    have hf : eqB b ffB = true → b 0 = 255 := fun h => eqB_at h 0 (by omega)
    generalize eqB b z0 = Z at *
    generalize eqB b ffB = F at *
    generalize b 0 = x at *
    refine ⟨?_, ?_, ?_, ?_, ?_, ?_⟩
    all_goals
      rw [hk]
      try rw [e1]
      try rw [e2]
      try rw [e3]
      try rw [e4]
      try rw [w46]
      cases Z <;> cases F <;> simp at hz hf ⊢
      all_goals repeat' split
      all_goals first | omega | (simp; omega) | simp_all
  · have o1 : ∀ i, 0 ≤ oneB i ∧ oneB i ≤ 255 := fun i => by unfold oneB; split <;> omega
    have o2 : ∀ i, 0 ≤ ffx i ∧ ffx i ≤ 255 := fun i => by unfold ffx; split <;> omega
    have o3 : ∀ i, 0 ≤ z0 i ∧ z0 i ≤ 255 := fun i => by simp
    have hh : ∀ c : Nat → Int, headB 16 b c ↔ eqB b c = true := fun c => by rw [eqB_iff]; rfl
    have e1 : withinF 6 b 6 oneB 128 = eqB b oneB := by
      rw [w66 (by omega) (by omega)]
      exact bool_eq2 ((mask_head hb o1 (k := 16) (by omega) (by omega)).trans (hh _))
    have e2 : withinF 6 b 6 ffx 8 = decide (b 0 = 255) := by
      rw [w66 (by omega) (by omega)]
      exact bool_eq ((mask_head hb o2 (k := 1) (by omega) (by omega)).trans head1)
    have e3 : withinF 6 b 6 z0 128 = eqB b z0 := by
      rw [w66 (by omega) (by omega)]
      exact bool_eq2 ((mask_head hb o3 (k := 16) (by omega) (by omega)).trans (hh _))
    have hk : kindF 6 b = if eqB b z0 then 1 else if eqB b oneB then 2 else if b 0 = 255 then 3 else 5 := by
      unfold kindF
      rw [hv]
      simp
    have hz : eqB b z0 = true → b 0 = 0 ∧ b 15 = 0 := fun h => ⟨eqB_at h 0 (by omega), eqB_at h 15 (by omega)⟩
    have hf : eqB b oneB = true → b 0 = 0 ∧ b 15 = 1 := fun h => ⟨eqB_at h 0 (by omega), eqB_at h 15 (by omega)⟩
    generalize eqB b z0 = Z at *
    generalize eqB b oneB = F at *
    generalize b 0 = x at *
    generalize b 15 = y at *
    refine ⟨?_, ?_, ?_, ?_, ?_, ?_⟩
    all_goals
      rw [hk]
      try rw [e1]
      try rw [e2]
      try rw [e3]
      try rw [w64]
      cases Z <;> cases F <;> simp at hz hf ⊢
      all_goals repeat' split
      all_goals first | omega | (simp; omega) | simp_all
end Go.Proofs.YtodbjjlgnnjmoaaDoor
