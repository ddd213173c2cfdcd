/- Plain laws of texts: a text cut at a byte; decimal and hexadecimal numbers; the texts of addresses. No program in sight. -/
import Derived.Lib.Split
import Derived.Lib.SplitLaws
namespace Go.Proofs.YtodbjjlgnnjmoaaDoor
open Go.Lib
/-- A text cut at each byte c. -/
def pcs (c : UInt8) : List UInt8 → List (List UInt8)
  | [] => [[]]
  | b :: l => if b = c then [] :: pcs c l else match pcs c l with
    | [] => [[b]]
    | p :: r => (b :: p) :: r
theorem pcs_ne (c : UInt8) (l : List UInt8) : pcs c l ≠ [] := by
  cases l with
  | nil => simp [pcs]
  | cons b l =>
    unfold pcs
    split
    · simp
    · split <;> simp
theorem pcs_none (c : UInt8) : ∀ l : List UInt8, l.count c = 0 → pcs c l = [l]
  | [], _ => rfl
  | b :: l, h => by
    have hb : b ≠ c := by
      intro e
      subst e
      simp at h
    have hl : l.count c = 0 := by
      rw [List.count_cons] at h
      omega
    unfold pcs
    rw [if_neg hb, pcs_none c l hl]
theorem index_cons_ne {b c : UInt8} (h : b ≠ c) (l : List UInt8) : index (b :: l) [c] = if index l [c] == -1 then -1 else index l [c] + 1 := by
  rw [index]
  have : [c].isPrefixOf (b :: l) = false := by
    simp [List.isPrefixOf]
    exact fun e => h e.symm
  rw [this]
  simp
theorem index_cons_eq (c : UInt8) (l : List UInt8) : index (c :: l) [c] = 0 := by
  rw [index]
  simp [List.isPrefixOf]
theorem index_none (c : UInt8) : ∀ l : List UInt8, l.count c = 0 → index l [c] = -1
  | [], _ => by simp [index]
  | b :: l, h => by
    have hb : b ≠ c := by
      intro e
      subst e
      simp at h
    have hl : l.count c = 0 := by
      rw [List.count_cons] at h
      omega
    rw [index_cons_ne hb, index_none c l hl]
    rfl
theorem index_some (c : UInt8) : ∀ l : List UInt8, 0 < l.count c → 0 ≤ index l [c]
  | [], h => by simp at h
  | b :: l, h => by
    by_cases hb : b = c
    · subst hb
      rw [index_cons_eq]
      exact Int.le_refl _
    · have hl : 0 < l.count c := by
        rw [List.count_cons] at h
        simp [hb] at h
        simpa using h
      have := index_some c l hl
      rw [index_cons_ne hb, if_neg (by simp; omega)]
      omega
theorem splitK_pcs (c : UInt8) : ∀ l : List UInt8, splitK [c] 0 (l.count c) l = pcs c l
  | [] => rfl
  | b :: l => by
    have ih := splitK_pcs c l
    by_cases hb : b = c
    · subst hb
      rw [List.count_cons_self, splitK, index_cons_eq]
      simp only [pcs, if_true]
      rw [if_neg (by decide)]
      simpa using ih
    · have hc : (b :: l).count c = l.count c := by
        rw [List.count_cons]
        simp [hb]
      rw [hc]
      by_cases h0 : l.count c = 0
      · rw [h0]
        rw [pcs_none c (b :: l) (by rw [hc]; exact h0)]
        rfl
      · obtain ⟨k, hk⟩ : ∃ k, l.count c = k + 1 := ⟨l.count c - 1, by omega⟩
        have hi := index_some c l (by omega)
        rw [hk] at ih ⊢
        rw [splitK, if_neg (by simp; omega)] at ih
        rw [splitK, index_cons_ne hb, if_neg (by simp; omega), if_neg (by simp; omega)]
        have e1 : (index l [c] + 1).toNat = (index l [c]).toNat + 1 := by omega
        rw [e1]
        unfold pcs
        rw [if_neg hb, ← ih]
        simp
theorem pcs_length (c : UInt8) : ∀ l : List UInt8, (pcs c l).length = l.count c + 1
  | [] => rfl
  | b :: l => by
    have ih := pcs_length c l
    unfold pcs
    by_cases hb : b = c
    · subst hb
      simp [ih]
    · rw [if_neg hb, List.count_cons]
      have hn := pcs_ne c l
      cases h : pcs c l with
      | nil => exact absurd h hn
      | cons p r =>
        rw [h] at ih
        simp [hb] at ih ⊢
        exact ih
/-- What strings.Split hands back at one byte. -/
theorem splitB_pcs (c : UInt8) (s : ByteArray) : (splitB ⟨#[c]⟩ 0 (countB s ⟨#[c]⟩) s).map (·.data.toList) = pcs c s.data.toList := by
  rw [splitB_data]
  have h : countB s ⟨#[c]⟩ = s.data.toList.count c := count_one c s.data.toList
  rw [h]
  exact splitK_pcs c s.data.toList
theorem countB_pcs (c : UInt8) (s : ByteArray) : countB s ⟨#[c]⟩ + 1 = (pcs c s.data.toList).length := by
  rw [pcs_length]
  have h : countB s ⟨#[c]⟩ = s.data.toList.count c := count_one c s.data.toList
  rw [h]
/-- A decimal number, digit by digit. -/
def decGo : List UInt8 → Nat → Option Nat
  | [], n => some n
  | c :: l, n => if 48 ≤ c.toNat ∧ c.toNat ≤ 57 then decGo l (10 * n + (c.toNat - 48)) else none
theorem decGo_snoc (c : UInt8) : ∀ (l : List UInt8) (n : Nat), decGo (l ++ [c]) n = (decGo l n).bind fun m => if 48 ≤ c.toNat ∧ c.toNat ≤ 57 then some (10 * m + (c.toNat - 48)) else none
  | [], n => by simp [decGo]
  | b :: l, n => by
    simp only [List.cons_append, decGo]
    split
    · exact decGo_snoc c l _
    · rfl
theorem decGo_le : ∀ (l : List UInt8) (n m : Nat), decGo l n = some m → m + 1 ≤ (n + 1) * 10 ^ l.length
  | [], n, m, h => by
    simp only [decGo, Option.some.injEq] at h
    subst h
    simp
  | c :: l, n, m, h => by
    simp only [decGo] at h
    split at h
    · have ih := decGo_le l _ m h
      refine Nat.le_trans ih ?_
      rw [List.length_cons, Nat.pow_succ, Nat.mul_comm (10 ^ l.length) 10, ← Nat.mul_assoc]
      exact Nat.mul_le_mul_right _ (by omega)
    · cases h
theorem decGo_none {c : UInt8} (hc : ¬ (48 ≤ c.toNat ∧ c.toNat ≤ 57)) : ∀ (l r : List UInt8) (n : Nat), decGo (l ++ c :: r) n = none
  | [], r, n => by simp [decGo, hc]
  | b :: l, r, n => by
    simp only [List.cons_append, decGo]
    split
    · exact decGo_none hc l r _
    · rfl
/-- A part of an address of version 4. -/
def part4 (p : List UInt8) : Option Nat :=
  if p.length < 1 ∨ 3 < p.length ∨ (p.head? = some 48 ∧ 1 < p.length) then none
  else match decGo p 0 with
    | none => none
    | some n => if 255 < n then none else some n
/-- The value of a part; is it one? -/
def val4 (p : List UInt8) : Nat := (part4 p).getD 0
def ok4 (p : List UInt8) : Bool := (part4 p).isSome
theorem part4_le {p : List UInt8} : val4 p ≤ 255 := by
  unfold val4 part4
  repeat' split
  all_goals simp
  omega
theorem ok4_len {p : List UInt8} (h : p.length < 1 ∨ 3 < p.length ∨ (p.head? = some 48 ∧ 1 < p.length)) : ok4 p = false := by
  unfold ok4 part4
  rw [if_pos h]
  rfl
theorem ok4_dig {p : List UInt8} (h : decGo p 0 = none) : ok4 p = false := by
  unfold ok4 part4
  rw [h]
  split <;> rfl
theorem ok4_big {p : List UInt8} {n : Nat} (h : decGo p 0 = some n) (hn : 255 < n) : ok4 p = false := by
  unfold ok4 part4
  rw [h]
  split
  · rfl
  · simp [hn]
theorem ok4_yes {p : List UInt8} {n : Nat} (hl : ¬ (p.length < 1 ∨ 3 < p.length ∨ (p.head? = some 48 ∧ 1 < p.length))) (h : decGo p 0 = some n) (hn : ¬ 255 < n) : ok4 p = true ∧ val4 p = n := by
  unfold ok4 val4 part4
  rw [if_neg hl, h]
  simp [hn]
/-- Are all four parts? -/
def okFour (s : List UInt8) : Bool := (pcs 46 s).length == 4 && (pcs 46 s).all ok4
/-- The bytes of the address. -/
def valFour (s : List UInt8) : Nat → Int := fun i => if i < 4 then ((val4 ((pcs 46 s).getD i []) : Nat) : Int) else 0
end Go.Proofs.YtodbjjlgnnjmoaaDoor
