/- Plain laws: where the gap of an address of version 6 stands. No program in sight. -/
import Derived.Test.YtodbjjlgnnjmoaaDoorPc
namespace Go.Proofs.YtodbjjlgnnjmoaaDoor
open Go.Lib
theorem pcs_sep (c : UInt8) (b : List UInt8) : ∀ a : List UInt8, pcs c (a ++ c :: b) = pcs c a ++ pcs c b
  | [] => by simp [pcs]
  | x :: a => by
    have ih := pcs_sep c b a
    rw [List.cons_append]
    rw [pcs, pcs, ih]
    by_cases hx : x = c
    · rw [if_pos hx, if_pos hx]
      rfl
    · rw [if_neg hx, if_neg hx]
      cases h : pcs c a with
      | nil => exact absurd h (pcs_ne c a)
      | cons p r => rfl
theorem ok6_nil : ok6 [] = false := ok6_len (.inl (by simp))
theorem okG_all {l : List UInt8} (h : okG l = true) (hne : l ≠ []) : (pcs 58 l).all ok6 = true := by
  unfold okG at h
  cases l with
  | nil => exact absurd rfl hne
  | cons a l => simpa using h
theorem okG_dbl (a b : List UInt8) : okG (a ++ 58 :: 58 :: b) = false := by
  cases h : okG (a ++ 58 :: 58 :: b) with
  | false => rfl
  | true =>
    have h1 := okG_all h (by simp)
    rw [pcs_sep, show (58 :: b : List UInt8) = [] ++ 58 :: b from rfl, pcs_sep] at h1
    rw [List.all_append, List.all_append] at h1
    simp [pcs, ok6_nil] at h1
theorem okG_end (a : List UInt8) : okG (a ++ [58]) = false := by
  cases h : okG (a ++ [58]) with
  | false => rfl
  | true =>
    have h1 := okG_all h (by simp)
    rw [pcs_sep, List.all_append] at h1
    simp [pcs, ok6_nil] at h1
/-- Does '::' stand at place i? -/
def dbl (l : List UInt8) (i : Nat) : Bool := (l.drop i).take 2 == [58, 58]
theorem dbl_split {l : List UInt8} {i : Nat} (h : dbl l i = true) : l = l.take i ++ 58 :: 58 :: l.drop (i + 2) ∧ i + 2 ≤ l.length := by
  have h1 : (l.drop i).take 2 = [58, 58] := eq_of_beq h
  have h2 := List.take_append_drop 2 (l.drop i)
  rw [h1, List.drop_drop] at h2
  constructor
  · have h3 := List.take_append_drop i l
    rw [← h2] at h3
    exact h3.symm
  · have h4 := congrArg List.length h1
    rw [List.length_take, List.length_drop] at h4
    simp at h4
    omega
theorem occ_dbl {l : List UInt8} {i : Nat} (hi : i + 2 ≤ l.length) : occAt l [58, 58] i = dbl l i := occAt_iff_take l [58, 58] i hi
/-- The first place of '::'. -/
theorem cut_at {l : List UInt8} {i : Nat} (h : dbl l i = true) (hf : ∀ j, j < i → dbl l j = false) : frS l = l.take i ∧ bkS l = l.drop (i + 2) ∧ gapS l = true := by
  have hl := (dbl_split h).2
  have hx : index l [58, 58] = i := by
    refine Go.Lib.index_first (by omega) (by rw [occ_dbl hl]; exact h) fun j hj => ?_
    rw [occ_dbl (by omega)]
    exact hf j hj
  unfold frS bkS gapS cut
  rw [hx, if_pos (by omega)]
  simp
theorem cut_none {l : List UInt8} (h : ∀ j, dbl l j = false) : frS l = l ∧ bkS l = [] ∧ gapS l = false := by
  have hx : index l [58, 58] = -1 := by
    refine Go.Lib.index_none fun j hj => ?_
    by_cases hl : j + 2 ≤ l.length
    · rw [occ_dbl hl]; exact h j
    · cases ho : occAt l [58, 58] j with
      | false => rfl
      | true =>
        rcases occAt_room ho with h1 | h1
        · simp at h1; omega
        · cases h1
  unfold frS bkS gapS cut
  rw [hx, if_neg (by omega)]
  exact ⟨rfl, rfl, rfl⟩
/-- There is a first place, or none. -/
theorem dbl_first (l : List UInt8) : (∀ j, dbl l j = false) ∨ ∃ i, dbl l i = true ∧ ∀ j, j < i → dbl l j = false := by
  by_cases h : ∃ i, dbl l i = true
  · right
    obtain ⟨i, hi⟩ := h
    induction i using Nat.strongRecOn with
    | ind i ih =>
      by_cases h2 : ∃ j, j < i ∧ dbl l j = true
      · obtain ⟨j, hj, hd⟩ := h2
        exact ih j hj hd
      · refine ⟨i, hi, fun j hj => ?_⟩
        cases hd : dbl l j with
        | false => rfl
        | true => exact absurd ⟨j, hj, hd⟩ h2
  · left
    intro j
    cases hd : dbl l j with
    | false => rfl
    | true => exact absurd ⟨j, hd⟩ h
theorem okG_nodbl {l : List UInt8} (h : okG l = true) : ∀ j, dbl l j = false := by
  intro j
  cases hd : dbl l j with
  | false => rfl
  | true =>
    rw [(dbl_split hd).1, okG_dbl] at h
    cases h
/-- Where '::' fits. -/
def fitAt (l : List UInt8) (i : Nat) : Prop := dbl l i = true ∧ okG (l.take i) = true ∧ okG (l.drop (i + 2)) = true ∧ (valG (l.take i)).length + (valG (l.drop (i + 2))).length ≤ 7
/-- It fits at the first place alone. -/
theorem fit_first {l : List UInt8} {i : Nat} (h : dbl l i = true) (ho : okG (l.take i) = true) : ∀ j, j < i → dbl l j = false := by
  intro j hj
  cases hd : dbl l j with
  | false => rfl
  | true =>
    obtain ⟨e, hl⟩ := dbl_split hd
    have hln := (dbl_split h).2
    by_cases h1 : j + 1 = i
    · have h2 : l.take i = l.take j ++ [58] := by
        have h3 := congrArg (List.take i) e
        rw [List.take_append, List.length_take, List.take_take] at h3
        rw [h3]
        have e1 : min i j = j := by omega
        have e2 : i - min j l.length = 1 := by omega
        rw [e1, e2]
        rfl
      rw [h2, okG_end] at ho
      cases ho
    · have h2 : l.take i = l.take j ++ 58 :: 58 :: (l.drop (j + 2)).take (i - j - 2) := by
        have h3 := congrArg (List.take i) e
        rw [List.take_append, List.length_take, List.take_take] at h3
        rw [h3]
        have e1 : min i j = j := by omega
        have e2 : i - min j l.length = (i - j - 2) + 2 := by omega
        rw [e1, e2]
        rfl
      rw [h2, okG_dbl] at ho
      cases ho
/-- The bytes of two sides and noughts between. -/
theorem byte6_fill (x y : List Nat) (hn : x.length + y.length ≤ 8) (i : Nat) (hi : i < 16) :
    backB x y y.length i = byte6 (x ++ List.replicate (8 - x.length - y.length) 0 ++ y) i := by
  have key : ∀ g, g < 8 → (x ++ List.replicate (8 - x.length - y.length) 0 ++ y).getD g 0 = if g < x.length then x.getD g 0 else if 8 - y.length ≤ g then y.getD (g - (8 - y.length)) 0 else 0 := by
    intro g hg
    simp only [List.getD_eq_getElem?_getD]
    by_cases h1 : g < x.length
    · rw [if_pos h1, List.getElem?_append_left (by rw [List.length_append]; omega), List.getElem?_append_left h1]
    · rw [if_neg h1]
      by_cases h2 : 8 - y.length ≤ g
      · rw [if_pos h2, List.getElem?_append_right (by rw [List.length_append, List.length_replicate]; omega), List.length_append, List.length_replicate]
        rw [show g - (x.length + (8 - x.length - y.length)) = g - (8 - y.length) by omega]
      · rw [if_neg h2, List.getElem?_append_left (by rw [List.length_append, List.length_replicate]; omega), List.getElem?_append_right (by omega), List.getElem?_replicate]
        rw [if_pos (by omega)]
        rfl
  have hk := key (i / 2) (by omega)
  unfold backB
  by_cases h1 : i < 2 * x.length
  · rw [if_pos h1]
    unfold byte6
    rw [hk, if_pos (show i / 2 < x.length by omega)]
  · rw [if_neg h1]
    rw [if_neg (show ¬ i / 2 < x.length by omega)] at hk
    by_cases h2 : 8 - y.length ≤ i / 2
    · rw [if_pos (show 16 - 2 * y.length ≤ i ∧ i < 16 - 2 * y.length + 2 * y.length by omega)]
      unfold byte6
      rw [hk, if_pos h2]
      have e1 : (i - (16 - 2 * y.length)) % 2 = i % 2 := by omega
      have e2 : (i - (16 - 2 * y.length)) / 2 = i / 2 - (8 - y.length) := by omega
      rw [e1, e2]
    · rw [if_neg (show ¬ (16 - 2 * y.length ≤ i ∧ i < 16 - 2 * y.length + 2 * y.length) by omega)]
      unfold byte6
      rw [hk, if_neg h2]
      split <;> rfl
theorem six_whole {l : List UInt8} (h : okG l = true) (h8 : (valG l).length = 8) : okSix l = true ∧ ∀ i, i < 16 → valSix l i = byte6 (valG l) i := by
  obtain ⟨e1, e2, e3⟩ := cut_none (okG_nodbl h)
  have hv0 : valG [] = [] := rfl
  constructor
  · unfold okSix nS
    rw [e1, e2, e3, h, hv0, h8]
    rfl
  · intro i hi
    unfold valSix
    rw [e1, e2, hv0]
    rw [byte6_fill _ _ (by simp [h8]) i hi, h8]
    simp
theorem six_fit {l : List UInt8} {i : Nat} (h : fitAt l i) : okSix l = true ∧ ∀ k, k < 16 → valSix l k = byte6 (valG (l.take i) ++ List.replicate (8 - (valG (l.take i)).length - (valG (l.drop (i + 2))).length) 0 ++ valG (l.drop (i + 2))) k := by
  obtain ⟨hd, ho1, ho2, hn⟩ := h
  obtain ⟨e1, e2, e3⟩ := cut_at hd (fit_first hd ho1)
  constructor
  · unfold okSix nS
    rw [e1, e2, e3, ho1, ho2]
    simpa using hn
  · intro k hk
    unfold valSix
    rw [e1, e2]
    exact byte6_fill _ _ (by omega) k hk
theorem six_no {l : List UInt8} (h1 : ¬ (okG l = true ∧ (valG l).length = 8)) (h2 : ∀ i, i + 2 ≤ l.length → ¬ fitAt l i) : okSix l = false := by
  cases hs : okSix l with
  | false => rfl
  | true =>
    exfalso
    unfold okSix nS at hs
    rcases dbl_first l with hno | ⟨i, hd, hf⟩
    · obtain ⟨e1, e2, e3⟩ := cut_none hno
      rw [e1, e2, e3] at hs
      simp only [Bool.and_eq_true] at hs
      refine h1 ⟨hs.1, ?_⟩
      have := hs.2.2
      simp only [Bool.false_eq_true, if_false, decide_eq_true_eq] at this
      simpa [show valG [] = [] from rfl] using this
    · obtain ⟨e1, e2, e3⟩ := cut_at hd hf
      rw [e1, e2, e3] at hs
      simp only [Bool.and_eq_true, if_true, decide_eq_true_eq] at hs
      exact h2 i (dbl_split hd).2 ⟨hd, hs.1, hs.2.1, hs.2.2⟩
end Go.Proofs.YtodbjjlgnnjmoaaDoor
