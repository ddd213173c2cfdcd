/- Plain laws of masks and kinds. -/
import Derived.Test.YtodbjjlgnnjmoaaDoorAn
namespace Go.Proofs.YtodbjjlgnnjmoaaDoor
open Go.RowKit
/-- A byte under a mask of k bits. -/
def mB (x : Int) (k : Nat) : Int := bits .and .u8 x (65280 / 2 ^ k % 256)
theorem maskF_def (n : Int) (b : Nat → Int) (i : Nat) : maskF n b i = mB (b i) (keepN n i) := rfl
theorem keepN_le (n : Int) (i : Nat) : keepN n i ≤ 8 := by unfold keepN; omega
theorem fin_of {x : Int} (h : 0 ≤ x ∧ x ≤ 255) : ∃ y : Fin 256, x = (y.val : Int) := ⟨⟨x.toNat, by omega⟩, by simp only; omega⟩
theorem mB_nat (y k : Nat) (hy : y < 256) (hk : k ≤ 8) : mB (y : Int) k = ((y / 2 ^ (8 - k) * 2 ^ (8 - k) : Nat) : Int) := by
  have : ∀ k : Fin 9, ∀ y : Fin 256, mB (y.val : Int) k.val = ((y.val / 2 ^ (8 - k.val) * 2 ^ (8 - k.val) : Nat) : Int) := by decide +kernel
  exact this ⟨k, by omega⟩ ⟨y, hy⟩
theorem mB_le {x : Int} (h : 0 ≤ x ∧ x ≤ 255) {k : Nat} (hk : k ≤ 8) : 0 ≤ mB x k ∧ mB x k ≤ x := by
  obtain ⟨y, rfl⟩ := fin_of h
  rw [mB_nat y.val k y.isLt hk]
  have := Nat.div_mul_le_self y.val (2 ^ (8 - k))
  omega
theorem mB_mB {x : Int} (h : 0 ≤ x ∧ x ≤ 255) {j k : Nat} (hj : j ≤ 8) (hk : k ≤ 8) : mB (mB x j) k = mB x (min j k) := by
  obtain ⟨y, rfl⟩ := fin_of h
  have hle := Nat.div_mul_le_self y.val (2 ^ (8 - j))
  have hlt := y.isLt
  rw [mB_nat y.val j hlt hj, mB_nat _ k (by omega) hk, mB_nat y.val (min j k) hlt (by omega)]
  congr 1
  by_cases hjk : j ≤ k
  · rw [Nat.min_eq_left hjk, show 2 ^ (8 - j) = 2 ^ (8 - k) * 2 ^ (k - j) by rw [← Nat.pow_add]; congr 1; omega]
    generalize y.val / (2 ^ (8 - k) * 2 ^ (k - j)) = q
    rw [show q * (2 ^ (8 - k) * 2 ^ (k - j)) = q * 2 ^ (k - j) * 2 ^ (8 - k) by rw [Nat.mul_comm (2 ^ (8 - k)), Nat.mul_assoc], Nat.mul_div_cancel _ (Nat.two_pow_pos _)]
  · rw [Nat.min_eq_right (by omega), show 2 ^ (8 - k) = 2 ^ (8 - j) * 2 ^ (j - k) by rw [← Nat.pow_add]; congr 1; omega]
    rw [← Nat.div_div_eq_div_mul, Nat.mul_div_cancel _ (Nat.two_pow_pos _), Nat.div_div_eq_div_mul]
theorem mB_8 {x : Int} (h : 0 ≤ x ∧ x ≤ 255) : mB x 8 = x := by
  obtain ⟨y, rfl⟩ := fin_of h
  rw [mB_nat y.val 8 y.isLt (by omega)]
  simp
theorem mB_0 {x : Int} (h : 0 ≤ x ∧ x ≤ 255) : mB x 0 = 0 := by
  obtain ⟨y, rfl⟩ := fin_of h
  rw [mB_nat y.val 0 y.isLt (by omega)]
  have : y.val / 2 ^ (8 - 0) = 0 := Nat.div_eq_of_lt y.isLt
  rw [this]
  simp
theorem mB_4 {x : Int} (h : 0 ≤ x ∧ x ≤ 255) : mB x 4 = 224 ↔ (224 ≤ x ∧ x ≤ 239) := by
  obtain ⟨y, rfl⟩ := fin_of h
  rw [mB_nat y.val 4 y.isLt (by omega)]
  have := y.isLt
  simp only [show 2 ^ (8 - 4) = 16 from rfl]
  omega
section
variable {b b' : Nat → Int} (hb : ∀ i, 0 ≤ b i ∧ b i ≤ 255) (hb' : ∀ i, 0 ≤ b' i ∧ b' i ≤ 255)
include hb in
theorem maskF_le (n : Int) (i : Nat) : 0 ≤ maskF n b i ∧ maskF n b i ≤ b i := mB_le (hb i) (keepN_le n i)
include hb in
theorem maskF_255 (n : Int) (i : Nat) : 0 ≤ maskF n b i ∧ maskF n b i ≤ 255 := by
  have := maskF_le hb n i
  have := hb i
  omega
include hb in
theorem maskF_mask (n m : Int) (i : Nat) : maskF m (maskF n b) i = maskF (min n m) b i := by
  rw [maskF_def, maskF_def, maskF_def, mB_mB (hb i) (keepN_le n i) (keepN_le m i)]
  congr 1
  unfold keepN
  omega
include hb in
theorem maskF_full {n : Int} {i : Nat} (h : 8 ≤ n - 8 * i) : maskF n b i = b i := by
  rw [maskF_def, show keepN n i = 8 by unfold keepN; omega, mB_8 (hb i)]
include hb in
theorem maskF_none {n : Int} {i : Nat} (h : n - 8 * i ≤ 0) : maskF n b i = 0 := by
  rw [maskF_def, show keepN n i = 0 by unfold keepN; omega, mB_0 (hb i)]
end
theorem tailZ_iff {b : Nat → Int} : tailZ b = true ↔ ∀ j, j < 12 → b (4 + j) = 0 := by
  unfold tailZ
  rw [List.all_eq_true]
  constructor
  · intro h j hj
    simpa using h j (by simpa using hj)
  · intro h j hj
    simpa using h j (by simpa using hj)
/-- The first k bytes are the same. -/
def headB (k : Nat) (b b' : Nat → Int) : Prop := ∀ i, i < k → b i = b' i
theorem mask_head {b b' : Nat → Int} (hb : ∀ i, 0 ≤ b i ∧ b i ≤ 255) (hb' : ∀ i, 0 ≤ b' i ∧ b' i ≤ 255) {k : Nat} {n : Int} (hn : n = 8 * k) (hk : k ≤ 16) :
    eqB (maskF n b) (maskF n b') = true ↔ headB k b b' := by
  rw [eqB_iff]
  constructor
  · intro h i hi
    have := h i (by omega)
    rwa [maskF_full hb (by omega), maskF_full hb' (by omega)] at this
  · intro h i _
    by_cases hi : i < k
    · rw [maskF_full hb (by omega), maskF_full hb' (by omega), h i hi]
    · rw [maskF_none hb (by omega), maskF_none hb' (by omega)]
theorem valid_4 {b : Nat → Int} : validF 4 b = tailZ b := by
  unfold validF bitsF bits4F
  rw [if_pos rfl]
  cases tailZ b <;> rfl
theorem valid_6 (b : Nat → Int) : validF 6 b = true := rfl
theorem maskOK_4 {b : Nat → Int} {n : Int} : maskOK 4 b n = (tailZ b && (decide (0 ≤ n) && decide (n ≤ 32))) := by
  unfold maskOK bitsF bits4F
  rw [if_pos rfl]
  cases tailZ b <;> simp
theorem maskOK_6 {b : Nat → Int} {n : Int} : maskOK 6 b n = (decide (0 ≤ n) && decide (n ≤ 128)) := by
  unfold maskOK bitsF
  simp
theorem eqA_46 (b b' : Nat → Int) : eqA 4 b 6 b' = false := rfl
theorem eqA_64 (b b' : Nat → Int) : eqA 6 b 4 b' = false := rfl
theorem eqA_44 (b b' : Nat → Int) : eqA 4 b 4 b' = eqB b b' := by
  unfold eqA
  rw [show ((4 : Int) == 4) = true from rfl, Bool.true_and]
theorem eqA_66 (b b' : Nat → Int) : eqA 6 b 6 b' = eqB b b' := by
  unfold eqA
  rw [show ((6 : Int) == 6) = true from rfl, Bool.true_and]
end Go.Proofs.YtodbjjlgnnjmoaaDoor
