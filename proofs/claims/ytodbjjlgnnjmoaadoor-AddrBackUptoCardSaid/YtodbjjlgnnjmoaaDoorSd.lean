/- The law's function long: an address of version 6 written as groups, a run of noughts left out. -/
import Derived.Test.YtodbjjlgnnjmoaaDoorSc
namespace Go.Proofs.YtodbjjlgnnjmoaaDoor
open Go.RowKit
/-- How many groups of nought are left out. -/
def lgo (b : Nat → Int) (gap most : Nat) : Nat → Nat → Nat
  | 0, k => k
  | f + 1, k => if gap + k < 8 ∧ k < most ∧ b (2 * (gap + k)) = 0 ∧ b (2 * (gap + k) + 1) = 0 then lgo b gap most f (k + 1) else k
def leftF (b : Nat → Int) (gap most : Nat) : Nat := lgo b gap most 9 0
theorem lgo_ok (b : Nat → Int) (gap most : Nat) : ∀ (f k : Nat), gap + k ≤ 8 → (∀ t, t < k → grp b (gap + t) = 0) → gap + lgo b gap most f k ≤ 8 ∧ ∀ t, t < lgo b gap most f k → grp b (gap + t) = 0
  | 0, k, h, hz => ⟨h, hz⟩
  | f + 1, k, h, hz => by
    unfold lgo
    split
    · rename_i hc
      refine lgo_ok b gap most f (k + 1) (by omega) fun t ht => ?_
      rcases Nat.lt_succ_iff_lt_or_eq.1 ht with h1 | rfl
      · exact hz t h1
      · unfold grp
        rw [hc.2.2.1, hc.2.2.2]
        rfl
    · exact ⟨h, hz⟩
theorem leftF_ok (b : Nat → Int) (gap most : Nat) (h : gap < 8) : gap + leftF b gap most ≤ 8 ∧ ∀ t, t < leftF b gap most → grp b (gap + t) = 0 :=
  lgo_ok b gap most 9 0 (by omega) (by omega)
/-- What is written behind i groups. -/
def longS (P : Nat → List UInt8) (a L i : Nat) : List UInt8 :=
  if L = 0 then Lib.join ((List.range i).map P) [58] else if i ≤ a then Lib.join ((List.range i).map P) [58]
  else Lib.join ((List.range a).map P) [58] ++ [58, 58] ++ Lib.join ((List.range (i - (a + L))).map fun j => P (a + L + j)) [58]
theorem longS_zero (P : Nat → List UInt8) (a L : Nat) : longS P a L 0 = [] := by
  unfold longS
  split
  · rfl
  · rw [if_pos (by omega)]; rfl
theorem join_range (P : Nat → List UInt8) (n : Nat) (h : 0 < n) : Lib.join ((List.range (n + 1)).map P) [58] = Lib.join ((List.range n).map P) [58] ++ 58 :: P n := by
  rw [List.range_succ, List.map_append]
  exact join_snoc 58 (P n) _ (by simp; omega)
theorem longS_first (P : Nat → List UInt8) (a L : Nat) (h : L = 0 ∨ 0 < a) : longS P a L 1 = P 0 := by
  unfold longS
  split
  · exact Lib.join_one _ _
  · rw [if_pos (by omega)]; exact Lib.join_one _ _
theorem longS_next (P : Nat → List UInt8) (a L i : Nat) (hi : 0 < i) (h : L = 0 ∨ i < a) : longS P a L (i + 1) = longS P a L i ++ [58] ++ P i := by
  unfold longS
  by_cases h0 : L = 0
  · rw [if_pos h0, if_pos h0, join_range P i hi]
    simp
  · rw [if_neg h0, if_neg h0, if_pos (by omega), if_pos (by omega), join_range P i hi]
    simp
theorem longS_gap (P : Nat → List UInt8) (a L : Nat) (h : 0 < L) : longS P a L (a + L) = longS P a L a ++ [58, 58] := by
  unfold longS
  rw [if_neg (by omega), if_neg (by omega), if_neg (by omega), if_pos (Nat.le_refl _), Nat.sub_self]
  simp [Lib.join_nil]
theorem longS_back (P : Nat → List UInt8) (a L : Nat) (h : 0 < L) : longS P a L (a + L + 1) = longS P a L (a + L) ++ P (a + L) := by
  rw [longS_gap P a L h]
  unfold longS
  rw [if_neg (by omega), if_neg (by omega), if_neg (by omega), if_pos (Nat.le_refl _), show a + L + 1 - (a + L) = 0 + 1 by omega, List.range_succ, List.map_append]
  simp [Lib.join_one]
theorem longS_more (P : Nat → List UInt8) (a L i : Nat) (h : 0 < L) (hi : a + L < i) : longS P a L (i + 1) = longS P a L i ++ [58] ++ P i := by
  unfold longS
  rw [if_neg (by omega), if_neg (by omega), if_neg (by omega), if_neg (by omega), show i + 1 - (a + L) = (i - (a + L)) + 1 by omega, join_range (fun j => P (a + L + j)) (i - (a + L)) (by omega), show a + L + (i - (a + L)) = i by omega]
  simp
/-- The whole text. -/
def longP (b : Nat → Int) (least : Nat) (up : Bool) (i : Nat) : List UInt8 := hexF (grp b i) least up
def longT (b : Nat → Int) (least : Nat) (up : Bool) (gap most : Nat) : List UInt8 := longS (longP b least up) gap (leftF b gap most) 8
/-- It is read as the address. -/
theorem long_back {b : Nat → Int} (hb : ∀ i, 0 ≤ b i ∧ b i ≤ 255) (least : Nat) (up : Bool) (gap most : Nat) (h1 : 1 ≤ least) (h4 : least ≤ 4) (hg : gap < 8) :
    adr (pV (longT b least up gap most)) (pB (longT b least up gap most)) = adr 6 b ∧ pE (longT b least up gap most) = 0 := by
  have hP : ∀ i, i < 8 → part6 (longP b least up i) = some (grp b i) := fun i _ => part6_hexF up (grp_lt hb i) h1 h4
  obtain ⟨hle, hz⟩ := leftF_ok b gap most hg
  apply parse6_of
  unfold longT longS
  split
  · obtain ⟨h1, h2, h3⟩ := core_whole hP
    exact ⟨h1, fun i hi => by rw [h2 i hi, byte6_grp hb hi], h3⟩
  · rw [if_neg (by omega)]
    obtain ⟨h1, h2, h3⟩ := core_gap gap (leftF b gap most) hP hle (by omega) hz
    exact ⟨h1, fun i hi => by rw [h2 i hi, byte6_grp hb hi], h3⟩
theorem longS_le (P : Nat → List UInt8) (hP : ∀ i, (P i).length ≤ 4) (a L i : Nat) (hi : i ≤ 8) (ha : a ≤ 8) : (longS P a L i).length ≤ 100 := by
  have key : ∀ (f : Nat → List UInt8) (n : Nat), (∀ j, (f j).length ≤ 4) → n ≤ 8 → (Lib.join ((List.range n).map f) [58]).length ≤ 40 := fun f n hf hn => by
    have h := join_le 4 ((List.range n).map f) [58] (fun x hx => by
      obtain ⟨j, _, rfl⟩ := List.mem_map.1 hx
      exact hf j)
    rw [List.length_map, List.length_range] at h
    simp only [List.length_cons, List.length_nil] at h
    omega
  unfold longS
  split
  · have := key P i hP hi
    omega
  · split
    · have := key P i hP hi
      omega
    · have h1 := key P a hP ha
      have h2 := key (fun j => P (a + L + j)) (i - (a + L)) (fun j => hP _) (by omega)
      simp only [List.length_append, List.length_cons, List.length_nil]
      omega
theorem longP_le (b : Nat → Int) (hb : ∀ i, 0 ≤ b i ∧ b i ≤ 255) (least : Nat) (up : Bool) (h4 : least ≤ 4) (i : Nat) : (longP b least up i).length ≤ 4 :=
  hexR_le up least h4 5 _ [] (by simp) (by simpa using grp_lt hb i)
end Go.Proofs.YtodbjjlgnnjmoaaDoor
