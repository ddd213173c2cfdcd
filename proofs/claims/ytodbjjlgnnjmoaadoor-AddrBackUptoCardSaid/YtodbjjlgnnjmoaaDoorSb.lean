/- Plain laws: numbers written are read again; texts joined are cut again. No program in sight. -/
import Derived.Test.YtodbjjlgnnjmoaaDoorSa
import Derived.Test.YtodbjjlgnnjmoaaDoorPe
import Derived.Test.YtodbjjlgnnjmoaaDoorRa
namespace Go.Proofs.YtodbjjlgnnjmoaaDoor
open Go.Lib
theorem hexD_U (up : Bool) {d : Nat} (h : d < 16) : hexD (dgU up d) = some d := by
  have key : ∀ (up : Bool) (d : Fin 16), hexD (dgU up d.val) = some d.val := by decide
  exact key up ⟨d, h⟩
theorem hexD_T {d : Nat} (h : d < 16) : hexD (dgt d) = some d := by
  have key : ∀ (d : Fin 16), hexD (dgt d.val) = some d.val := by decide
  exact key ⟨d, h⟩
theorem hexGo_map : ∀ (l : List UInt8) (m : Nat), hexGo l m = (hexGo l 0).map fun v => m * 16 ^ l.length + v
  | [], m => by simp [hexGo]
  | c :: l, m => by
    simp only [hexGo]
    cases hexD c with
    | none => rfl
    | some d =>
      simp only
      rw [hexGo_map l (16 * m + d), hexGo_map l (16 * 0 + d)]
      cases hexGo l 0 with
      | none => rfl
      | some u =>
        simp only [Option.map_some, Option.some.injEq, List.length_cons, Nat.pow_succ, Nat.mul_zero, Nat.zero_add]
        rw [Nat.add_mul, Nat.mul_comm (16 ^ l.length) 16, ← Nat.mul_assoc, Nat.mul_comm 16 m]
        omega
theorem hexGo_scale (l : List UInt8) (m v : Nat) (h : hexGo l 0 = some v) : hexGo l m = some (m * 16 ^ l.length + v) := by
  rw [hexGo_map, h]
  rfl
theorem hexGo_cons {c : UInt8} {d : Nat} (hc : hexD c = some d) {s : List UInt8} {v : Nat} (h : hexGo s 0 = some v) : hexGo (c :: s) 0 = some (d * 16 ^ s.length + v) := by
  simp only [hexGo, hc, Nat.mul_zero, Nat.zero_add]
  exact hexGo_scale s d v h
theorem pow_step (n L v : Nat) : n / 16 * 16 ^ (L + 1) + (n % 16 * 16 ^ L + v) = n * 16 ^ L + v := by
  rw [Nat.pow_succ, ← Nat.add_assoc, Nat.mul_comm (16 ^ L) 16, ← Nat.mul_assoc, ← Nat.add_mul]
  congr 2
  omega
theorem hexR_val (up : Bool) (least : Nat) : ∀ (f n : Nat) (s : List UInt8) (v : Nat), n < 16 ^ f → hexGo s 0 = some v → hexGo (hexR up least f n s) 0 = some (n * 16 ^ s.length + v)
  | 0, n, s, v, hn, h => by
    have : n = 0 := by simpa using hn
    subst this
    simp [hexR, h]
  | f + 1, n, s, v, hn, h => by
    unfold hexR
    split
    · have h1 : n / 16 < 16 ^ f := by
        rw [Nat.pow_succ] at hn
        omega
      rw [hexR_val up least f (n / 16) _ _ h1 (hexGo_cons (hexD_U up (Nat.mod_lt _ (by omega))) h), List.length_cons, pow_step]
    · have : n = 0 := by omega
      subst this
      simp [h]
theorem hexR_ge (up : Bool) (least : Nat) : ∀ (f n : Nat) (s : List UInt8), s.length ≤ (hexR up least f n s).length
  | 0, n, s => by simp [hexR]
  | f + 1, n, s => by
    unfold hexR
    split
    · have := hexR_ge up least f (n / 16) (dgU up (n % 16) :: s)
      rw [List.length_cons] at this
      omega
    · exact Nat.le_refl _
theorem hexR_le (up : Bool) (least : Nat) (hl : least ≤ 4) : ∀ (f n : Nat) (s : List UInt8), s.length ≤ 4 → n < 16 ^ (4 - s.length) → (hexR up least f n s).length ≤ 4
  | 0, n, s, h, _ => by simpa [hexR] using h
  | f + 1, n, s, h, hn => by
    unfold hexR
    split
    · rename_i hc
      have h4 : s.length < 4 := by
        rcases Nat.lt_or_ge s.length 4 with h | h
        · exact h
        · have e : s.length = 4 := by omega
          rw [e] at hn hc
          simp at hn
          omega
      refine hexR_le up least hl f (n / 16) _ (by rw [List.length_cons]; omega) ?_
      rw [List.length_cons]
      rw [show 4 - s.length = (4 - (s.length + 1)) + 1 by omega, Nat.pow_succ] at hn
      omega
    · exact h
/-- A group, written by the law's hex, is read as that group. -/
theorem part6_hexF {n least : Nat} (up : Bool) (hn : n < 65536) (h1 : 1 ≤ least) (h4 : least ≤ 4) : part6 (hexF n least up) = some n := by
  have hv : hexGo (hexF n least up) 0 = some n := by
    have := hexR_val up least 5 n [] 0 (by omega) rfl
    simpa [hexF] using this
  have hle : (hexF n least up).length ≤ 4 := hexR_le up least h4 5 n [] (by simp) (by simpa using hn)
  have hge : 1 ≤ (hexF n least up).length := by
    unfold hexF
    rw [hexR]
    have := hexR_ge up least 4 (n / 16) [dgU up (n % 16)]
    rw [if_pos (by simp; omega)]
    simpa using this
  unfold part6
  rw [if_neg (by omega), hv]
theorem hexTo_val : ∀ (j n : Nat) (s : List UInt8) (v : Nat), n < 16 ^ (j + 1) → hexGo s 0 = some v → hexGo (hexTo j n s) 0 = some (n * 16 ^ s.length + v)
  | 0, n, s, v, hn, h => by
    unfold hexTo
    exact hexGo_cons (hexD_T (by simpa using hn)) h
  | j + 1, n, s, v, hn, h => by
    unfold hexTo
    split
    · exact hexGo_cons (hexD_T (by assumption)) h
    · have h1 : n / 16 < 16 ^ (j + 1) := by
        rw [Nat.pow_succ] at hn
        omega
      rw [hexTo_val j (n / 16) _ _ h1 (hexGo_cons (hexD_T (Nat.mod_lt _ (by omega))) h), List.length_cons, pow_step]
/-- A group, written by Print, is read as that group. -/
theorem part6_hexT {n : Nat} (hn : n < 65536) : part6 (hexT n) = some n := by
  have hv : hexGo (hexT n) 0 = some n := by
    have := hexTo_val 3 n [] 0 (by omega) rfl
    simpa [hexT] using this
  have hge := hexTo_len 3 n []
  have hle := hexTo_le 3 n []
  unfold part6
  rw [if_neg (by unfold hexT; simp at hge hle; omega), hv]
theorem part6_no58 {p : List UInt8} {n : Nat} (h : part6 p = some n) : p.count 58 = 0 ∧ p ≠ [] := by
  unfold part6 at h
  split at h
  · cases h
  · rename_i hl
    refine ⟨?_, fun e => hl (.inl (by simp [e]))⟩
    rw [List.count_eq_zero]
    intro hm
    obtain ⟨a, b, rfl⟩ := List.append_of_mem hm
    rw [hexGo_none (by decide)] at h
    cases h
theorem pcs_app (c : UInt8) {a : List UInt8} (ha : a.count c = 0) (b : List UInt8) : pcs c (a ++ c :: b) = a :: pcs c b := by
  rw [pcs_sep, pcs_none c a ha]
  rfl
/-- Texts joined at a byte are cut there again. -/
theorem pcs_join (c : UInt8) : ∀ ps : List (List UInt8), ps ≠ [] → (∀ p ∈ ps, p.count c = 0) → pcs c (join ps [c]) = ps
  | [], h, _ => absurd rfl h
  | [p], _, h => by
    rw [join_one]
    exact pcs_none c p (h p (by simp))
  | p :: q :: r, _, h => by
    have e : join (p :: q :: r) [c] = p ++ c :: join (q :: r) [c] := by
      rw [join_cons, join_cons]
      simp [joinTail]
    rw [e, pcs_app c (h p (by simp)), pcs_join c (q :: r) (by simp) (fun x hx => h x (by simp [hx]))]
theorem join_snoc (c : UInt8) (p : List UInt8) : ∀ ps : List (List UInt8), ps ≠ [] → join (ps ++ [p]) [c] = join ps [c] ++ c :: p
  | [], h => absurd rfl h
  | x :: r, _ => by
    rw [List.cons_append, join_cons, join_cons]
    simp [joinTail]
theorem join_ne {ps : List (List UInt8)} {c : UInt8} (h : ps ≠ []) (hp : ∀ p ∈ ps, p ≠ []) : join ps [c] ≠ [] := by
  cases ps with
  | nil => exact absurd rfl h
  | cons p r =>
    rw [join_cons]
    have := hp p (by simp)
    simp [this]
/-- Groups joined are read as those groups. -/
theorem okG_join {ps : List (List UInt8)} {g : List Nat} (h : ps.map part6 = g.map some) : okG (join ps [58]) = true ∧ valG (join ps [58]) = g := by
  have hp : ∀ p ∈ ps, ∃ n, part6 p = some n := fun p hp => by
    have : part6 p ∈ ps.map part6 := List.mem_map.2 ⟨p, hp, rfl⟩
    rw [h] at this
    obtain ⟨n, _, hn⟩ := List.mem_map.1 this
    exact ⟨n, hn.symm⟩
  cases ps with
  | nil =>
    cases g with
    | nil => exact ⟨rfl, rfl⟩
    | cons a g => cases h
  | cons q r =>
    have hpc := pcs_join 58 (q :: r) (by simp) (fun p hpm => by obtain ⟨n, hn⟩ := hp p hpm; exact (part6_no58 hn).1)
    have hne := join_ne (ps := q :: r) (c := 58) (by simp) (fun p hpm => by obtain ⟨n, hn⟩ := hp p hpm; exact (part6_no58 hn).2)
    have hall : (q :: r).all ok6 = true := by
      rw [List.all_eq_true]
      intro p hpm
      obtain ⟨n, hn⟩ := hp p hpm
      unfold ok6
      rw [hn]
      rfl
    have hemp : (join (q :: r) [58]).isEmpty = false := by simpa using hne
    unfold okG valG
    rw [hemp, hpc, hall]
    refine ⟨rfl, ?_⟩
    simp only [Bool.false_eq_true, if_false, if_true]
    have e : ∀ (ps : List (List UInt8)) (g : List Nat), ps.map part6 = g.map some → ps.map val6 = g := by
      intro ps
      induction ps with
      | nil => intro g h; cases g <;> simp_all
      | cons p ps ih =>
        intro g h
        cases g with
        | nil => cases h
        | cons a g =>
          simp only [List.map_cons, List.cons.injEq] at h ⊢
          refine ⟨?_, ih g h.2⟩
          unfold val6
          rw [h.1]
          rfl
    exact e _ _ h
end Go.Proofs.YtodbjjlgnnjmoaaDoor
