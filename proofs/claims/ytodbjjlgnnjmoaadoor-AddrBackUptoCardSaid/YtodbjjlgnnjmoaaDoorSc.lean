/- Plain laws: an address's texts are read as that address. No program in sight. -/
import Derived.Test.YtodbjjlgnnjmoaaDoorSb
import Derived.Test.YtodbjjlgnnjmoaaDoorRg
namespace Go.Proofs.YtodbjjlgnnjmoaaDoor
open Go.Lib
theorem hasF_count {l : List UInt8} {c : UInt8} (h : hasF l c = false) : l.count c = 0 := by
  rw [List.count_eq_zero]
  intro hm
  obtain ⟨k, hk⟩ := List.getElem?_of_mem hm
  rw [hasF_yes hk] at h
  cases h
theorem hasF_zero {l : List UInt8} {c : UInt8} (h : l.count c = 0) : hasF l c = false :=
  hasF_no fun _ _ e => (List.count_eq_zero.1 h) (List.mem_of_getElem? e)
/-- The eight groups. -/
def gl (g : Nat → Nat) : List Nat := (List.range 8).map g
theorem gl_get (g : Nat → Nat) {i : Nat} (h : i < 8) : (gl g).getD i 0 = g i := by
  unfold gl
  rw [List.getD_eq_getElem?_getD, List.getElem?_map, List.getElem?_range h]
  rfl
theorem byte6_grp {b : Nat → Int} (hb : ∀ i, 0 ≤ b i ∧ b i ≤ 255) {i : Nat} (h : i < 16) : byte6 (gl (grp b)) i = b i := by
  unfold byte6
  rw [gl_get _ (by omega)]
  unfold grp
  have h1 := hb (2 * (i / 2))
  have h2 := hb (2 * (i / 2) + 1)
  split
  · have e : i = 2 * (i / 2) := by omega
    rw [show b i = b (2 * (i / 2)) by rw [← e]]
    omega
  · have e : i = 2 * (i / 2) + 1 := by omega
    rw [show b i = b (2 * (i / 2) + 1) by rw [← e]]
    omega
theorem grp_lt {b : Nat → Int} (hb : ∀ i, 0 ≤ b i ∧ b i ≤ 255) (i : Nat) : grp b i < 65536 := by
  unfold grp
  have h1 := hb (2 * i)
  have h2 := hb (2 * i + 1)
  omega
theorem parts_some {P : Nat → List UInt8} {g : Nat → Nat} (o n : Nat) (h : ∀ i, i < o + n → part6 (P i) = some (g i)) :
    ((List.range n).map fun j => P (o + j)).map part6 = ((List.range n).map fun j => g (o + j)).map some := by
  rw [List.map_map, List.map_map]
  apply List.map_congr_left
  intro j hj
  simp only [List.mem_range] at hj
  exact h (o + j) (by omega)
theorem core_whole {P : Nat → List UInt8} {g : Nat → Nat} (h : ∀ i, i < 8 → part6 (P i) = some (g i)) :
    okSix (join ((List.range 8).map P) [58]) = true ∧ (∀ i, i < 16 → valSix (join ((List.range 8).map P) [58]) i = byte6 (gl g) i) ∧ hasF (join ((List.range 8).map P) [58]) 58 = true := by
  have hp := parts_some (P := P) (g := g) 0 8 (by simpa using h)
  simp only [Nat.zero_add] at hp
  obtain ⟨h1, h2⟩ := okG_join hp
  obtain ⟨h3, h4⟩ := six_whole h1 (by rw [h2]; simp)
  refine ⟨h3, fun i hi => ?_, ?_⟩
  · rw [h4 i hi, h2]
    rfl
  · cases hh : hasF (join ((List.range 8).map P) [58]) 58 with
    | true => rfl
    | false =>
      exfalso
      have h5 := pcs_join 58 ((List.range 8).map P) (by simp) (fun p hpm => by
        obtain ⟨i, hi, rfl⟩ := List.mem_map.1 hpm
        exact (part6_no58 (h i (by simpa using hi))).1)
      have h6 := congrArg List.length h5
      rw [pcs_length, hasF_count hh] at h6
      simp at h6
theorem core_gap {P : Nat → List UInt8} {g : Nat → Nat} (a L : Nat) (h : ∀ i, i < 8 → part6 (P i) = some (g i)) (hal : a + L ≤ 8) (hL : 0 < L) (hz : ∀ t, t < L → g (a + t) = 0) :
    okSix (join ((List.range a).map P) [58] ++ [58, 58] ++ join ((List.range (8 - (a + L))).map fun j => P (a + L + j)) [58]) = true ∧
    (∀ i, i < 16 → valSix (join ((List.range a).map P) [58] ++ [58, 58] ++ join ((List.range (8 - (a + L))).map fun j => P (a + L + j)) [58]) i = byte6 (gl g) i) ∧
    hasF (join ((List.range a).map P) [58] ++ [58, 58] ++ join ((List.range (8 - (a + L))).map fun j => P (a + L + j)) [58]) 58 = true := by
  have hp1 := parts_some (P := P) (g := g) 0 a (fun i hi => h i (by omega))
  simp only [Nat.zero_add] at hp1
  have hp2 := parts_some (P := P) (g := g) (a + L) (8 - (a + L)) (fun i hi => h i (by omega))
  obtain ⟨o1, v1⟩ := okG_join hp1
  obtain ⟨o2, v2⟩ := okG_join hp2
  obtain ⟨X, hX⟩ : ∃ X, join ((List.range a).map P) [58] = X := ⟨_, rfl⟩
  obtain ⟨Y, hY⟩ : ∃ Y, join ((List.range (8 - (a + L))).map fun j => P (a + L + j)) [58] = Y := ⟨_, rfl⟩
  rw [hX] at o1 v1 ⊢
  rw [hY] at o2 v2 ⊢
  have hT : X ++ [58, 58] ++ Y = X ++ 58 :: 58 :: Y := by simp
  rw [hT]
  have e1 : (X ++ 58 :: 58 :: Y).take X.length = X := List.take_left
  have e2 : (X ++ 58 :: 58 :: Y).drop (X.length + 2) = Y := by
    rw [List.drop_append]
    simp
  have hd : dbl (X ++ 58 :: 58 :: Y) X.length = true := by
    unfold dbl
    rw [List.drop_left]
    rfl
  have hfit : fitAt (X ++ 58 :: 58 :: Y) X.length := by
    refine ⟨hd, by rw [e1]; exact o1, by rw [e2]; exact o2, ?_⟩
    rw [e1, e2, v1, v2]
    simp
    omega
  obtain ⟨h3, h4⟩ := six_fit hfit
  refine ⟨h3, fun i hi => ?_, ?_⟩
  · rw [h4 i hi, e1, e2, v1, v2]
    congr 1
    apply List.ext_getElem?
    intro k
    unfold gl
    simp only [List.length_map, List.length_range]
    by_cases k1 : k < a
    · rw [List.getElem?_append_left (by simp; omega), List.getElem?_append_left (by simpa using k1)]
      rw [List.getElem?_map, List.getElem?_map, List.getElem?_range k1, List.getElem?_range (by omega)]
    · by_cases k2 : k < a + L
      · rw [List.getElem?_append_left (by simp; omega), List.getElem?_append_right (by simp; omega), List.getElem?_replicate, if_pos (by simp; omega)]
        rw [List.getElem?_map, List.getElem?_range (by omega)]
        have := hz (k - a) (by omega)
        rw [show a + (k - a) = k by omega] at this
        simp [this]
      · by_cases k3 : k < 8
        · rw [List.getElem?_append_right (by simp; omega)]
          simp only [List.length_append, List.length_map, List.length_range, List.length_replicate]
          rw [List.getElem?_map, List.getElem?_map, List.getElem?_range (by omega), List.getElem?_range k3]
          simp only [Option.map_some]
          congr 2
          omega
        · rw [List.getElem?_eq_none (by simp; omega), List.getElem?_eq_none (by simp; omega)]
  · exact hasF_yes (k := X.length) (by rw [List.getElem?_append_right (Nat.le_refl _)]; simp)
theorem parse6_of {T : List UInt8} {b : Nat → Int} (h : okSix T = true ∧ (∀ i, i < 16 → valSix T i = b i) ∧ hasF T 58 = true) : adr (pV T) (pB T) = adr 6 b ∧ pE T = 0 := by
  obtain ⟨h1, h2, h3⟩ := h
  have hc := colon_has T
  rw [h3] at hc
  unfold pV pB pE pOK
  rw [hc]
  simp only [if_true, h1]
  exact ⟨congrArg Value.agg (ac_congr 6 h2), trivial⟩
theorem parse4_of {T : List UInt8} {b : Nat → Int} (h : okFour T = true ∧ (∀ i, i < 16 → valFour T i = b i) ∧ hasF T 58 = false) : adr (pV T) (pB T) = adr 4 b ∧ pE T = 0 := by
  obtain ⟨h1, h2, h3⟩ := h
  have hc := colon_has T
  rw [h3] at hc
  unfold pV pB pE pOK
  rw [hc]
  simp only [Bool.false_eq_true, if_false, if_true, h1]
  exact ⟨congrArg Value.agg (ac_congr 4 h2), trivial⟩
theorem zrunGo_all (z : Nat → Bool) : ∀ (f i t : Nat), t < zrunGo z f i → z (i + t) = true
  | 0, i, t, h => by simp [zrunGo] at h
  | f + 1, i, t, h => by
    unfold zrunGo at h
    split at h
    · rename_i hz
      cases t with
      | zero => exact hz
      | succ t =>
        have := zrunGo_all z f (i + 1) t (by omega)
        rwa [show i + 1 + t = i + (t + 1) by omega] at this
    · omega
theorem best_zero (z : Nat → Bool) : ∀ k, (bestGo z k).2 = 1 ∨ ∀ t, t < (bestGo z k).2 → z ((bestGo z k).1 + t) = true
  | 0 => .inl rfl
  | k + 1 => by
    unfold bestGo
    split
    · exact .inr fun t ht => zrunGo_all z _ k t ht
    · exact best_zero z k
theorem drop_range {α : Type} (P : Nat → α) (n k : Nat) : ((List.range n).map P).drop k = (List.range (n - k)).map fun j => P (k + j) := by
  apply List.ext_getElem?
  intro i
  rw [List.getElem?_drop, List.getElem?_map, List.getElem?_map]
  by_cases h : k + i < n
  · rw [List.getElem?_range h, List.getElem?_range (by omega)]
    rfl
  · rw [List.getElem?_eq_none (by simp; omega), List.getElem?_eq_none (by simp; omega)]
    rfl
theorem take_range {α : Type} (P : Nat → α) (n k : Nat) (h : k ≤ n) : ((List.range n).map P).take k = (List.range k).map P := by
  rw [← List.map_take, List.take_range, Nat.min_eq_left h]
/-- What Print writes of version 6 is read as that address. -/
theorem back_6 {b : Nat → Int} (hb : ∀ i, 0 ≤ b i ∧ b i ≤ 255) : adr (pV (text6 b)) (pB (text6 b)) = adr 6 b ∧ pE (text6 b) = 0 := by
  have hP : ∀ i, i < 8 → part6 (hexT (grp b i)) = some (grp b i) := fun i _ => part6_hexT (grp_lt hb i)
  apply parse6_of
  unfold text6 txts
  obtain ⟨hle, hge⟩ := bestGo_le (zG b) 8 (Nat.le_refl _)
  split
  · obtain ⟨h1, h2, h3⟩ := core_whole hP
    exact ⟨h1, fun i hi => by rw [h2 i hi, byte6_grp hb hi], h3⟩
  · rename_i hne
    rcases best_zero (zG b) 8 with h | hz
    · exact absurd h hne
    · obtain ⟨h1, h2, h3⟩ := core_gap (P := fun i => hexT (grp b i)) (g := grp b) (bestGo (zG b) 8).1 (bestGo (zG b) 8).2 hP hle (by omega) (fun t ht => by
        have := hz t ht
        unfold zG at this
        exact eq_of_beq this)
      rw [take_range _ _ _ (by omega), drop_range]
      exact ⟨h1, fun i hi => by rw [h2 i hi, byte6_grp hb hi], h3⟩
theorem itoa_255 (n : Nat) (h : n ≤ 255) : part4 (Lib.itoa (n : Int)) = some n ∧ (Lib.itoa (n : Int)).count 46 = 0 ∧ (Lib.itoa (n : Int)).count 58 = 0 := by
  have key : ∀ n : Fin 256, part4 (Lib.itoa (n.val : Int)) = some n.val ∧ (Lib.itoa (n.val : Int)).count 46 = 0 ∧ (Lib.itoa (n.val : Int)).count 58 = 0 := by decide +kernel
  exact key ⟨n, by omega⟩
theorem count_join {c d : UInt8} (hcd : d ≠ c) : ∀ ps : List (List UInt8), (∀ p ∈ ps, p.count c = 0) → (join ps [d]).count c = 0
  | [], _ => rfl
  | p :: r, h => by
    rw [join_cons, List.count_append, h p (by simp)]
    have e : ∀ r : List (List UInt8), (∀ p ∈ r, p.count c = 0) → (joinTail [d] r).count c = 0 := by
      intro r
      induction r with
      | nil => intro _; rfl
      | cons q r ih =>
        intro h
        have h1 := h q (by simp)
        have h2 := ih (fun x hx => h x (by simp [hx]))
        unfold joinTail at h2 ⊢
        simp only [List.map_cons, List.flatten_cons, List.count_append, h2, h1, List.count_cons, List.count_nil]
        simp [hcd]
    rw [e r (fun x hx => h x (by simp [hx]))]
/-- What Print writes of version 4 is read as that address. -/
theorem back_4 {b : Nat → Int} (hb : ∀ i, 0 ≤ b i ∧ b i ≤ 255) (hv : validF 4 b = true) : adr (pV (join ((decs b 4).map (·.data.toList)) [46])) (pB (join ((decs b 4).map (·.data.toList)) [46])) = adr 4 b ∧ pE (join ((decs b 4).map (·.data.toList)) [46]) = 0 := by
  have e : (decs b 4).map (·.data.toList) = (List.range 4).map fun i => Lib.itoa (b i) := by
    unfold decs
    rw [List.map_map]
    rfl
  rw [e]
  have hp : ∀ i, part4 (Lib.itoa (b i)) = some (b i).toNat ∧ (Lib.itoa (b i)).count 46 = 0 ∧ (Lib.itoa (b i)).count 58 = 0 := fun i => by
    have h := hb i
    have h1 := itoa_255 (b i).toNat (by omega)
    rwa [show (((b i).toNat : Nat) : Int) = b i by omega] at h1
  have hpc := pcs_join 46 ((List.range 4).map fun i => Lib.itoa (b i)) (by simp) (fun p hpm => by
    obtain ⟨i, _, rfl⟩ := List.mem_map.1 hpm
    exact (hp i).2.1)
  refine parse4_of ⟨?_, fun i hi => ?_, ?_⟩
  · unfold okFour
    rw [hpc]
    simp only [List.length_map, List.length_range, Bool.and_eq_true, List.all_eq_true]
    refine ⟨rfl, fun p hpm => ?_⟩
    obtain ⟨i, _, rfl⟩ := List.mem_map.1 hpm
    unfold ok4
    rw [(hp i).1]
    rfl
  · unfold valFour
    rw [hpc]
    split
    · rename_i h4
      rw [List.getD_eq_getElem?_getD, List.getElem?_map, List.getElem?_range h4]
      simp only [Option.map_some, Option.getD_some]
      unfold val4
      rw [(hp i).1]
      have := hb i
      simp only [Option.getD_some]
      omega
    · rename_i h4
      unfold validF bitsF bits4F at hv
      simp only [if_true] at hv
      have ht : tailZ b = true := by
        cases h : tailZ b with
        | true => rfl
        | false => rw [h] at hv; simp at hv
      unfold tailZ at ht
      rw [List.all_eq_true] at ht
      have := ht (i - 4) (by simp; omega)
      rw [show 4 + (i - 4) = i by omega] at this
      exact (eq_of_beq this).symm
  · exact hasF_zero (count_join (by decide) _ (fun p hpm => by
      obtain ⟨i, _, rfl⟩ := List.mem_map.1 hpm
      exact (hp i).2.2))
/-- What Print writes of an address is read as that address. -/
theorem print_back {v : Int} {b : Nat → Int} (hb : ∀ i, 0 ≤ b i ∧ b i ≤ 255) (hv : validF v b = true) : adr (pV (printT v b)) (pB (printT v b)) = adr v b ∧ pE (printT v b) = 0 := by
  rcases validF_46 hv with rfl | rfl
  · have e : printT 4 b = join ((decs b 4).map (·.data.toList)) [46] := by unfold printT; rw [hv]; rfl
    rw [e]
    exact back_4 hb hv
  · have e : printT 6 b = text6 b := by unfold printT; rw [hv]; rfl
    rw [e]
    exact back_6 hb
/-- What is read is an address. -/
theorem parse_valid {l : List UInt8} (h : pE l = 0) : validF (pV l) (pB l) = true := by
  have hok : pOK l = true := by
    unfold pE at h
    cases hp : pOK l with
    | true => rfl
    | false => rw [hp] at h; simp at h
  unfold pV pB
  rw [hok]
  simp only [if_true]
  cases colon l with
  | true =>
    simp only [if_true]
    unfold validF bitsF
    simp
  | false =>
    simp only [Bool.false_eq_true, if_false]
    unfold validF bitsF bits4F
    simp only [if_true]
    have ht : tailZ (valFour l) = true := by
      unfold tailZ
      rw [List.all_eq_true]
      intro j _
      unfold valFour
      rw [if_neg (by omega)]
      rfl
    rw [ht]
    rfl
theorem pE_cases (l : List UInt8) : pE l = 0 ∨ (pE l = 30 ∧ pV l = 0 ∧ pB l = z0) := by
  unfold pE pV pB
  cases pOK l with
  | true => exact .inl rfl
  | false => exact .inr ⟨rfl, rfl, rfl⟩
end Go.Proofs.YtodbjjlgnnjmoaaDoor
