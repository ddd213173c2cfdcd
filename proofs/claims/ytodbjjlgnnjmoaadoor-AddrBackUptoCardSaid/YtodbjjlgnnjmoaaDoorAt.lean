/- AddrNets: plain laws. -/
import Derived.Test.YtodbjjlgnnjmoaaDoorAr
namespace Go.Proofs.YtodbjjlgnnjmoaaDoor
open Go.RowKit
theorem eqA_comm (v : Int) (b : Nat → Int) (v' : Int) (b' : Nat → Int) : eqA v b v' b' = eqA v' b' v b := by
  refine bool_eq2 ?_
  unfold eqA
  rw [Bool.and_eq_true, Bool.and_eq_true, eqB_iff, eqB_iff, beq_iff_eq, beq_iff_eq]
  exact ⟨fun h => ⟨h.1.symm, fun i hi => (h.2 i hi).symm⟩, fun h => ⟨h.1.symm, fun i hi => (h.2 i hi).symm⟩⟩
theorem withinF_comm (v : Int) (b : Nat → Int) (v' : Int) (b' : Nat → Int) (n : Int) : withinF v' b' v b n = withinF v b v' b' n := by
  unfold withinF
  rw [eqA_comm v' (maskF n b') v (maskF n b)]
  cases maskOK v b n <;> cases maskOK v' b' n <;> simp
/-- How many bits a version has. -/
def mostF (v : Int) : Int := if v = 4 then 32 else 128
theorem maskOK_46 {v : Int} {b : Nat → Int} {n : Int} (h : maskOK v b n = true) : v = 4 ∨ v = 6 := by
  unfold maskOK bitsF at h
  by_cases h4 : v = 4
  · exact .inl h4
  · by_cases h6 : v = 6
    · exact .inr h6
    · simp [h4, h6] at h
/-- A masked address may be masked by what lies between 0 and its bits. -/
theorem maskOK_mask {v : Int} {b : Nat → Int} {n : Int} (hb : ∀ i, 0 ≤ b i ∧ b i ≤ 255) (h : maskOK v b n = true) (m : Int) : maskOK v (maskF n b) m = (decide (0 ≤ m) && decide (m ≤ mostF v)) := by
  rcases maskOK_46 h with rfl | rfl
  · rw [maskOK_4] at h
    rw [Bool.and_eq_true] at h
    have ht : tailZ (maskF n b) = true := by
      rw [tailZ_iff]
      intro j hj
      have := (tailZ_iff.1 h.1) j hj
      have h2 := maskF_le hb n (4 + j)
      omega
    rw [maskOK_4, ht, Bool.true_and]
    rfl
  · rw [maskOK_6]
    rfl
theorem maskOK_in {v : Int} {b : Nat → Int} {n : Int} (h : maskOK v b n = true) {m : Int} (h0 : 0 ≤ m) (h1 : m ≤ mostF v) : maskOK v b m = true := by
  rcases maskOK_46 h with rfl | rfl
  · rw [maskOK_4] at h ⊢
    rw [Bool.and_eq_true] at h
    rw [h.1]
    have h1 : m ≤ 32 := h1
    simp [h0, h1]
  · rw [maskOK_6]
    have h1 : m ≤ 128 := h1
    simp [h0, h1]
theorem maskOK_le {v : Int} {b : Nat → Int} {n : Int} (h : maskOK v b n = true) : 0 ≤ n ∧ n ≤ mostF v := by
  rcases maskOK_46 h with rfl | rfl
  · rw [maskOK_4] at h
    simp only [Bool.and_eq_true, decide_eq_true_eq] at h
    exact ⟨h.2.1, h.2.2⟩
  · rw [maskOK_6] at h
    simp only [Bool.and_eq_true, decide_eq_true_eq] at h
    exact ⟨h.1, h.2⟩
/-- A mask of a mask is the shorter mask. -/
theorem mask_mask (v : Int) {b : Nat → Int} (n : Int) (hb : ∀ i, 0 ≤ b i ∧ b i ≤ 255) (m : Int) : eqA v (maskF m (maskF n b)) v (maskF (min n m) b) = true := by
  unfold eqA
  rw [Bool.and_eq_true, eqB_iff]
  exact ⟨by simp, fun i _ => maskF_mask hb n m i⟩
/-- An address lies in its mask's net. -/
theorem within_mask {v : Int} {b : Nat → Int} {n : Int} (hb : ∀ i, 0 ≤ b i ∧ b i ≤ 255) (h : maskOK v b n = true) : withinF v b v (maskF n b) n = true := by
  have hle := maskOK_le h
  have h2 : maskOK v (maskF n b) n = true := by
    rw [maskOK_mask hb h]
    simp [hle.1, hle.2]
  unfold withinF
  rw [h, h2, Bool.true_and, Bool.true_and, eqA_comm]
  have := mask_mask v n hb n
  rwa [show min n n = n by omega] at this
theorem cmpB_le : ∀ (x y : List UInt8), x.length = y.length → (∀ i : Nat, ∀ a c, x[i]? = some a → y[i]? = some c → c ≤ a) → ¬ Lib.compareBytes x y < 0
  | [], [], _, _ => by simp [Lib.compareBytes]
  | [], _ :: _, h, _ => by simp at h
  | _ :: _, [], h, _ => by simp at h
  | a :: xs, c :: ys, h, hh => by
    have h0 := hh 0 a c rfl rfl
    unfold Lib.compareBytes
    rw [if_neg (UInt8.not_lt.2 h0)]
    by_cases h1 : c < a
    · rw [if_pos h1]; decide
    · rw [if_neg h1]
      exact cmpB_le xs ys (by simpa using h) (fun i a' c' e1 e2 => hh (i + 1) a' c' e1 e2)
theorem lb_len (b : Nat → Int) : (lb b).length = 16 := by simp [lb, Lib.bytesOf]
/-- A mask is not above its address. -/
theorem less_mask {b : Nat → Int} (hb : ∀ i, 0 ≤ b i ∧ b i ≤ 255) (v n : Int) : lessF v b v (maskF n b) = false := by
  unfold lessF
  rw [if_pos rfl, cmpF_eq]
  have := cmpB_le (lb b) (lb (maskF n b)) (by rw [lb_len, lb_len]) (fun i a c e1 e2 => by
    have hi : i < 16 := by
      have := (List.getElem?_eq_some_iff.1 e1).1
      rwa [lb_len] at this
    rw [lb_at b i hi] at e1
    rw [lb_at _ i hi] at e2
    obtain rfl := Option.some.inj e1
    obtain rfl := Option.some.inj e2
    have h1 := maskF_le hb n i
    have h2 := hb i
    rw [UInt8.le_iff_toNat_le, UInt8.toNat_ofNat', UInt8.toNat_ofNat', Nat.mod_eq_of_lt (by omega), Nat.mod_eq_of_lt (by omega)]
    omega)
  simpa using this
/-- What lies in a net lies in every wider one. -/
theorem within_wider {v v' : Int} {b b' : Nat → Int} (hb : ∀ i, 0 ≤ b i ∧ b i ≤ 255) (hb' : ∀ i, 0 ≤ b' i ∧ b' i ≤ 255) {n m : Int} (h : withinF v b v' b' n = true) (h0 : 0 ≤ m) (hm : m ≤ n) : withinF v b v' b' m = true := by
  unfold withinF at h ⊢
  simp only [Bool.and_eq_true] at h
  obtain ⟨h1, h2, h3⟩ := h
  have l1 := maskOK_le h1
  unfold eqA at h3 ⊢
  rw [Bool.and_eq_true] at h3
  obtain rfl := eq_of_beq h3.1
  rw [maskOK_in h1 h0 (by omega), maskOK_in h2 h0 (by omega)]
  have he := eqB_iff.1 h3.2
  have : eqB (maskF m b) (maskF m b') = true := eqB_iff.2 fun i hi => by
    have e1 := maskF_mask hb n m i
    have e2 := maskF_mask hb' n m i
    rw [show min n m = m by omega] at e1 e2
    rw [← e1, ← e2]
    show mB (maskF n b i) (keepN m i) = mB (maskF n b' i) (keepN m i)
    rw [he i hi]
  rw [this]
  simp
end Go.Proofs.YtodbjjlgnnjmoaaDoor
