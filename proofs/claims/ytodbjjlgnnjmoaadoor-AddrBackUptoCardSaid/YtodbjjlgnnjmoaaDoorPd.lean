/- Plain laws of the longest run of groups of nought. -/
namespace Go.Proofs.YtodbjjlgnnjmoaaDoor
/-- How many in a row are nought from i on, of f at most. -/
def zrunGo (z : Nat → Bool) : Nat → Nat → Nat
  | 0, _ => 0
  | f + 1, i => if z i then 1 + zrunGo z f (i + 1) else 0
/-- Of eight. -/
def zrun (z : Nat → Bool) (k : Nat) : Nat := zrunGo z (8 - k) k
theorem zrunGo_le (z : Nat → Bool) : ∀ f i, zrunGo z f i ≤ f
  | 0, _ => Nat.le_refl _
  | f + 1, i => by
    have := zrunGo_le z f (i + 1)
    unfold zrunGo
    split <;> omega
theorem zrunGo_eq (z : Nat → Bool) : ∀ (f i n : Nat), n ≤ f → (∀ t, t < n → z (i + t) = true) → (n = f ∨ z (i + n) = false) → zrunGo z f i = n
  | 0, i, n, hn, _, _ => by
    unfold zrunGo
    omega
  | f + 1, i, n, hn, ht, he => by
    unfold zrunGo
    cases n with
    | zero =>
      rcases he with h | h
      · omega
      · rw [Nat.add_zero] at h
        simp [h]
    | succ n =>
      have h0 := ht 0 (by omega)
      rw [Nat.add_zero] at h0
      rw [if_pos h0, zrunGo_eq z f (i + 1) n (by omega) (fun t htn => by
        have := ht (t + 1) (by omega)
        rwa [show i + (t + 1) = i + 1 + t by omega] at this) (by
        rcases he with h | h
        · left; omega
        · right; rwa [show i + (n + 1) = i + 1 + n by omega] at h)]
      omega
theorem zrun_eq {z : Nat → Bool} {k n : Nat} (hn : k + n ≤ 8) (ht : ∀ t, t < n → z (k + t) = true) (he : k + n = 8 ∨ z (k + n) = false) : zrun z k = n :=
  zrunGo_eq z (8 - k) k n (by omega) ht (he.imp (by omega) id)
theorem zrun_le (z : Nat → Bool) (k : Nat) (hk : k ≤ 8) : k + zrun z k ≤ 8 := by
  have := zrunGo_le z (8 - k) k
  unfold zrun
  omega
/-- Where the longest run begins, and how long it is (1: none is longer than that), among the first k places. -/
def bestGo (z : Nat → Bool) : Nat → Nat × Nat
  | 0 => (0, 1)
  | k + 1 => if (bestGo z k).2 < zrun z k then (k, zrun z k) else bestGo z k
theorem bestGo_le (z : Nat → Bool) : ∀ k, k ≤ 8 → (bestGo z k).1 + (bestGo z k).2 ≤ 8 ∧ 1 ≤ (bestGo z k).2
  | 0, _ => ⟨by simp [bestGo], by simp [bestGo]⟩
  | k + 1, hk => by
    have ih := bestGo_le z k (by omega)
    unfold bestGo
    split
    · exact ⟨zrun_le z k (by omega), by simp only; omega⟩
    · exact ih
end Go.Proofs.YtodbjjlgnnjmoaaDoor
