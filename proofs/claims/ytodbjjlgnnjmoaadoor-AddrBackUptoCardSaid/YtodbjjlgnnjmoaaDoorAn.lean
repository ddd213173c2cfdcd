/- AddrOrder: what it computes. -/
import Derived.Test.YtodbjjlgnnjmoaaDoorAm
import Derived.Lib.Bytealg
namespace Go.Proofs.YtodbjjlgnnjmoaaDoor
open Go.RowKit
/-- Comparing rows of bytes. -/
theorem cmpB_refl : ∀ x : List UInt8, Lib.compareBytes x x = 0
  | [] => by simp [Lib.compareBytes]
  | a :: xs => by
    unfold Lib.compareBytes
    rw [if_neg (UInt8.lt_irrefl a), if_neg (UInt8.lt_irrefl a)]
    exact cmpB_refl xs
theorem cmpB_flip : ∀ x y : List UInt8, Lib.compareBytes x y < 0 ↔ 0 < Lib.compareBytes y x
  | [], [] => by simp [Lib.compareBytes]
  | [], _ :: _ => by simp [Lib.compareBytes]
  | _ :: _, [] => by simp [Lib.compareBytes]
  | a :: xs, b :: ys => by
    unfold Lib.compareBytes
    by_cases h1 : a < b
    · rw [if_pos h1, if_neg (UInt8.lt_asymm h1), if_pos h1]; decide
    · by_cases h2 : b < a
      · rw [if_neg h1, if_pos h2, if_pos h2]; decide
      · rw [if_neg h1, if_neg h2, if_neg h2, if_neg h1]
        exact cmpB_flip xs ys
theorem cmpB_eq : ∀ x y : List UInt8, Lib.compareBytes x y = 0 → x = y
  | [], [], _ => rfl
  | [], _ :: _, h => by simp [Lib.compareBytes] at h
  | _ :: _, [], h => by simp [Lib.compareBytes] at h
  | a :: xs, b :: ys, h => by
    unfold Lib.compareBytes at h
    by_cases h1 : a < b
    · rw [if_pos h1] at h; cases h
    · by_cases h2 : b < a
      · rw [if_neg h1, if_pos h2] at h; cases h
      · rw [if_neg h1, if_neg h2] at h
        obtain rfl : a = b := UInt8.le_antisymm (UInt8.not_lt.1 h2) (UInt8.not_lt.1 h1)
        rw [cmpB_eq xs ys h]
theorem cmpB_trans : ∀ x y z : List UInt8, Lib.compareBytes x y < 0 → Lib.compareBytes y z < 0 → Lib.compareBytes x z < 0
  | [], _ :: _, _ :: _, _, _ => by simp [Lib.compareBytes]
  | [], [], _, h, _ => by simp [Lib.compareBytes] at h
  | _ :: _, [], _, h, _ => by simp [Lib.compareBytes] at h
  | _, _ :: _, [], _, h => by simp [Lib.compareBytes] at h
  | a :: xs, b :: ys, c :: zs, h, k => by
    unfold Lib.compareBytes at h k ⊢
    by_cases h1 : a < b
    · by_cases k1 : b < c
      · rw [if_pos (UInt8.lt_trans h1 k1)]; decide
      · by_cases k2 : c < b
        · rw [if_neg k1, if_pos k2] at k; simp at k
        · obtain rfl : b = c := UInt8.le_antisymm (UInt8.not_lt.1 k2) (UInt8.not_lt.1 k1)
          rw [if_pos h1]; decide
    · by_cases h2 : b < a
      · rw [if_neg h1, if_pos h2] at h; simp at h
      · obtain rfl : a = b := UInt8.le_antisymm (UInt8.not_lt.1 h2) (UInt8.not_lt.1 h1)
        rw [if_neg h1, if_neg h2] at h
        by_cases k1 : a < c
        · rw [if_pos k1]; decide
        · by_cases k2 : c < a
          · rw [if_neg k1, if_pos k2] at k; simp at k
          · rw [if_neg k1, if_neg k2] at k ⊢
            exact cmpB_trans xs ys zs h k
/-- The sixteen bytes xs a list. -/
def lb (b : Nat → Int) : List UInt8 := Lib.bytesOf ((List.range 16).map b)
theorem cmpF_eq (b b' : Nat → Int) : cmpF b b' = Lib.compareBytes (lb b) (lb b') := by
  unfold cmpF
  rw [Lib.cmp_eq]
  rfl
theorem lb_at (b : Nat → Int) (i : Nat) (hi : i < 16) : (lb b)[i]? = some (UInt8.ofNat (b i).toNat) := by
  unfold lb Lib.bytesOf
  rw [List.getElem?_map, List.getElem?_map, List.getElem?_range hi]
  rfl
theorem lb_inj {b b' : Nat → Int} (h : ∀ i, 0 ≤ b i ∧ b i ≤ 255) (h' : ∀ i, 0 ≤ b' i ∧ b' i ≤ 255) (he : lb b = lb b') (i : Nat) (hi : i < 16) : b i = b' i := by
  have e := lb_at b i hi
  rw [he, lb_at b' i hi] at e
  have e' : UInt8.ofNat (b' i).toNat = UInt8.ofNat (b i).toNat := Option.some.inj e
  have e2 := congrArg UInt8.toNat e'
  have := h i
  have := h' i
  rw [UInt8.toNat_ofNat', UInt8.toNat_ofNat', Nat.mod_eq_of_lt (by omega), Nat.mod_eq_of_lt (by omega)] at e2
  omega
theorem eqB_iff {b b' : Nat → Int} : eqB b b' = true ↔ ∀ i, i < 16 → b i = b' i := by
  unfold eqB
  rw [List.all_eq_true]
  constructor
  · intro h i hi
    simpa using h i (by simpa using hi)
  · intro h i hi
    simpa using h i (by simpa using hi)
theorem lb_congr {b b' : Nat → Int} (h : ∀ i, i < 16 → b i = b' i) : lb b = lb b' := by
  unfold lb
  rw [List.map_congr_left (fun i hi => h i (by simpa using hi))]
theorem less_self (v : Int) (b : Nat → Int) : lessF v b v b = false := by
  unfold lessF
  rw [if_pos rfl, cmpF_eq, cmpB_refl]
  rfl
theorem less_same {v v' : Int} {b b' : Nat → Int} (h : eqA v b v' b' = true) : lessF v b v' b' = false ∧ lessF v' b' v b = false := by
  unfold eqA at h
  rw [Bool.and_eq_true] at h
  obtain rfl := eq_of_beq h.1
  have hl := lb_congr (eqB_iff.1 h.2)
  unfold lessF
  rw [if_pos rfl, if_pos rfl, cmpF_eq, cmpF_eq, hl, cmpB_refl]
  exact ⟨rfl, rfl⟩
theorem less_other {v v' : Int} {b b' : Nat → Int} (hb : ∀ i, 0 ≤ b i ∧ b i ≤ 255) (hb' : ∀ i, 0 ≤ b' i ∧ b' i ≤ 255) (h : eqA v b v' b' = false) : lessF v' b' v b = !lessF v b v' b' := by
  unfold lessF
  by_cases hv : v = v'
  · subst hv
    rw [if_pos rfl, if_pos rfl, cmpF_eq, cmpF_eq]
    have hne : Lib.compareBytes (lb b) (lb b') ≠ 0 := fun h0 => by
      have : eqB b b' = true := eqB_iff.2 (lb_inj hb hb' (cmpB_eq _ _ h0))
      unfold eqA at h
      rw [this] at h
      simp at h
    have h1 := cmpB_flip (lb b) (lb b')
    have h2 := cmpB_flip (lb b') (lb b)
    by_cases hl : Lib.compareBytes (lb b) (lb b') < 0
    · have := h1.1 hl
      simp [hl]
      omega
    · have : Lib.compareBytes (lb b') (lb b) < 0 := h2.2 (by omega)
      simp [hl, this]
  · rw [if_neg hv, if_neg (fun e => hv e.symm)]
    by_cases hl : v < v'
    · simp [hl]; omega
    · have : v' < v := by omega
      simp [hl, this]
theorem less_step {v v' v'' : Int} {b b' b'' : Nat → Int} (h : lessF v b v' b' = true) (k : lessF v' b' v'' b'' = true) : lessF v b v'' b'' = true := by
  unfold lessF at *
  by_cases h1 : v = v'
  · subst h1
    by_cases h2 : v = v''
    · subst h2
      rw [if_pos rfl] at h k ⊢
      rw [cmpF_eq] at h k ⊢
      exact decide_eq_true (cmpB_trans _ _ _ (of_decide_eq_true h) (of_decide_eq_true k))
    · rw [if_neg h2] at k ⊢
      exact k
  · rw [if_neg h1] at h
    have hl := of_decide_eq_true h
    by_cases h2 : v' = v''
    · subst h2
      rw [if_neg h1]
      exact h
    · rw [if_neg h2] at k
      have hk := of_decide_eq_true k
      rw [if_neg (by omega)]
      exact decide_eq_true (by omega)
/-- Three addresses in memory, and what the library's variables hold. -/
structure TS (w : World) (m : Int) (v v' v'' : Int) (b b' b'' : Nat → Int) (W : World) : Prop where
  q0 : HB W w.heap.size (ac v b) 25
  q1 : HB W (w.heap.size + 1) (ac v' b') 25
  q2 : HB W (w.heap.size + 2) (ac v'' b'') 25
  he : Env m W
  hb : Below w.heap.size w W
theorem TS.keep {w : World} {m : Int} {v v' v'' : Int} {b b' b'' : Nat → Int} {W W' : World} (h : TS w m v v' v'' b b' b'' W) (k : Below W.heap.size W W') : TS w m v v' v'' b b' b'' W' :=
  ⟨h.q0.below k h.q0.lt, h.q1.below k h.q1.lt, h.q2.below k h.q2.lt, h.he.b k, h.hb.con k⟩
theorem TS.start {w : World} {m : Int} (he : Env m w) (v v' v'' : Int) (b b' b'' : Nat → Int) : TS w m v v' v'' b b' b'' (((w.alloc (adrO v b)).alloc (adrO v' b')).alloc (adrO v'' b'')) :=
  ⟨((HB.new w (ac v b) 25).alloc _).alloc _, (HB.newAt (w := w.alloc (adrO v b)) (by simp) (ac v' b') 25).alloc _, HB.newAt (w := (w.alloc (adrO v b)).alloc (adrO v' b')) (by simp) (ac v'' b'') 25,
    he.b ((((Below.rfl' w).al _).al _).al _), (((Below.rfl' w).al _).al _).al _⟩
set_option maxRecDepth 100000 in
set_option maxHeartbeats 4000000 in
theorem order_any (v v' v'' : Int) (b b' b'' : Nat → Int) (hb : ∀ i, 0 ≤ b i ∧ b i ≤ 255) (hb' : ∀ i, 0 ≤ b' i ∧ b' i ≤ 255) (w : World) (m : Int) (he : Env m w) :
    Calls Tryd.prog 5 #[adr v b, adr v' b', adr v'' b''] w fun e w' => e = .returned (.bool true) ∧ Below w.heap.size w w' := by
  have hS := TS.start he v v' v'' b b' b''
  have l0 := less_self v b
  have E25 := eq25
  have HL1 := Lib.hid (fun h => less_same (v := v) (v' := v') (b := b) (b' := b') h)
  have HL2 := Lib.hid (fun h => less_other (v := v) (v' := v') hb hb' h)
  have HL3 := Lib.hid (fun h k => less_step (v := v) (v' := v') (v'' := v'') (b := b) (b' := b') (b'' := b'') h k)
  clear hb hb'
  go_enter Tryd.func5, Tryd.ntmps5
  go_wp2_with fail
  refine (alive_any _ m hS.he).mono ?_
  rintro e w1 ⟨rfl, hb1⟩
  replace hS := hS.keep hb1
  clear hb1
  obtain ⟨ab, hab⟩ : ∃ x, lessF v b v' b' = x := ⟨_, rfl⟩
  obtain ⟨ba, hba⟩ : ∃ x, lessF v' b' v b = x := ⟨_, rfl⟩
  obtain ⟨bc, hbc⟩ : ∃ x, lessF v' b' v'' b'' = x := ⟨_, rfl⟩
  obtain ⟨ac', hac⟩ : ∃ x, lessF v b v'' b'' = x := ⟨_, rfl⟩
  obtain ⟨E, hE⟩ : ∃ x, eqA v b v' b' = x := ⟨_, rfl⟩
  rw [hab, hba] at HL2
  cases E
  · have h2 := HL2.out hE
    subst h2
    rw [hab, hbc, hac] at HL3
    clear HL1 HL2 he
    cases ab <;> cases bc <;> cases ac'
    all_goals try exact absurd (HL3.out rfl rfl) (by decide)
    all_goals
      clear HL3
      go_wp2_with (first
        | (refine ld25 rfl _ rfl _ rfl _ _ hS.q0 ?_) | (refine ld25 rfl _ rfl _ rfl _ _ hS.q1 ?_) | (refine ld25g rfl _ rfl _ rfl _ _ hS.q0 ?_) | (refine ld25g rfl _ rfl _ rfl _ _ hS.q1 ?_) | (refine ld25g rfl _ rfl _ rfl _ _ hS.q2 ?_)
        | (go_at_call 14; refine (less_any _ _ _ _ _).mono ?_; rintro e w' ⟨rfl, hb'⟩; replace hS := hS.keep hb'; clear hb'))
      go_ret
      exact ⟨rfl, hS.hb⟩
  · obtain ⟨h1, h2⟩ := HL1.out hE
    rw [hab] at h1
    rw [hba] at h2
    subst h1 h2
    clear HL1 HL2 HL3 he
    go_wp2_with (first
        | (refine ld25 rfl _ rfl _ rfl _ _ hS.q0 ?_) | (refine ld25 rfl _ rfl _ rfl _ _ hS.q1 ?_) | (refine ld25g rfl _ rfl _ rfl _ _ hS.q0 ?_) | (refine ld25g rfl _ rfl _ rfl _ _ hS.q1 ?_) | (refine ld25g rfl _ rfl _ rfl _ _ hS.q2 ?_)
        | (go_at_call 14; refine (less_any _ _ _ _ _).mono ?_; rintro e w' ⟨rfl, hb'⟩; replace hS := hS.keep hb'; clear hb'))
    go_ret
    exact ⟨rfl, hS.hb⟩
end Go.Proofs.YtodbjjlgnnjmoaaDoor
