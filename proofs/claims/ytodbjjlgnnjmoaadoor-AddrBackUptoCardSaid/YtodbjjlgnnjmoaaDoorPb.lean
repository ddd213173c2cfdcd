/- Plain laws of the groups of an address of version 6. -/
import Derived.Test.YtodbjjlgnnjmoaaDoorPa
namespace Go.Proofs.YtodbjjlgnnjmoaaDoor
open Go.Lib
/-- A hexadecimal digit. -/
def hexD (c : UInt8) : Option Nat :=
  if 48 ≤ c.toNat ∧ c.toNat ≤ 57 then some (c.toNat - 48) else if 97 ≤ c.toNat ∧ c.toNat ≤ 102 then some (c.toNat - 97 + 10) else if 65 ≤ c.toNat ∧ c.toNat ≤ 70 then some (c.toNat - 65 + 10) else none
theorem hexD_le {c : UInt8} {d : Nat} (h : hexD c = some d) : d ≤ 15 := by
  unfold hexD at h
  split at h
  · injection h; omega
  · split at h
    · injection h; omega
    · split at h
      · injection h; omega
      · cases h
/-- A hexadecimal number, digit by digit. -/
def hexGo : List UInt8 → Nat → Option Nat
  | [], n => some n
  | c :: l, n => match hexD c with
    | some d => hexGo l (16 * n + d)
    | none => none
theorem hexGo_snoc (c : UInt8) : ∀ (l : List UInt8) (n : Nat), hexGo (l ++ [c]) n = (hexGo l n).bind fun m => match hexD c with
    | some d => some (16 * m + d)
    | none => none
  | [], n => by
    simp only [List.nil_append, hexGo, Option.bind_some]
  | b :: l, n => by
    simp only [List.cons_append, hexGo]
    cases h : hexD b with
    | none => rfl
    | some d => exact hexGo_snoc c l _
theorem hexGo_le : ∀ (l : List UInt8) (n m : Nat), hexGo l n = some m → m + 1 ≤ (n + 1) * 16 ^ l.length
  | [], n, m, h => by
    simp only [hexGo, Option.some.injEq] at h
    subst h
    simp
  | c :: l, n, m, h => by
    simp only [hexGo] at h
    cases hd : hexD c with
    | none => rw [hd] at h; cases h
    | some d =>
      rw [hd] at h
      have ih := hexGo_le l _ m h
      have := hexD_le hd
      refine Nat.le_trans ih ?_
      rw [List.length_cons, Nat.pow_succ, Nat.mul_comm (16 ^ l.length) 16, ← Nat.mul_assoc]
      exact Nat.mul_le_mul_right _ (by omega)
theorem hexGo_none {c : UInt8} (hc : hexD c = none) : ∀ (l r : List UInt8) (n : Nat), hexGo (l ++ c :: r) n = none
  | [], r, n => by simp [hexGo, hc]
  | b :: l, r, n => by
    simp only [List.cons_append, hexGo]
    cases hexD b with
    | none => rfl
    | some d => exact hexGo_none hc l r _
/-- A group. -/
def part6 (p : List UInt8) : Option Nat := if p.length < 1 ∨ 4 < p.length then none else hexGo p 0
def val6 (p : List UInt8) : Nat := (part6 p).getD 0
def ok6 (p : List UInt8) : Bool := (part6 p).isSome
theorem val6_lt (p : List UInt8) : val6 p < 65536 := by
  unfold val6 part6
  split
  · simp
  · rename_i h
    cases hg : hexGo p 0 with
    | none => simp
    | some m =>
      have h1 := hexGo_le p 0 m hg
      have h2 : 16 ^ p.length ≤ 16 ^ 4 := Nat.pow_le_pow_right (by omega) (by omega)
      simp only [Nat.zero_add, Nat.one_mul] at h1
      simp only [Option.getD_some]
      omega
theorem ok6_len {p : List UInt8} (h : p.length < 1 ∨ 4 < p.length) : ok6 p = false := by
  unfold ok6 part6
  rw [if_pos h]
  rfl
theorem ok6_dig {p : List UInt8} (h : hexGo p 0 = none) : ok6 p = false := by
  unfold ok6 part6
  rw [h]
  split <;> rfl
theorem ok6_yes {p : List UInt8} {n : Nat} (hl : ¬ (p.length < 1 ∨ 4 < p.length)) (h : hexGo p 0 = some n) : ok6 p = true ∧ val6 p = n := by
  unfold ok6 val6 part6
  rw [if_neg hl, h]
  exact ⟨rfl, rfl⟩
/-- Are all groups? -/
def okG (s : List UInt8) : Bool := s.isEmpty || (pcs 58 s).all ok6
/-- The groups; none where one is wrong. -/
def valG (s : List UInt8) : List Nat := if s.isEmpty then [] else if (pcs 58 s).all ok6 then (pcs 58 s).map val6 else []
theorem valG_lt {s : List UInt8} {n : Nat} (h : n ∈ valG s) : n < 65536 := by
  unfold valG at h
  split at h
  · cases h
  · split at h
    · obtain ⟨p, _, rfl⟩ := List.mem_map.1 h
      exact val6_lt p
    · cases h
end Go.Proofs.YtodbjjlgnnjmoaaDoor
