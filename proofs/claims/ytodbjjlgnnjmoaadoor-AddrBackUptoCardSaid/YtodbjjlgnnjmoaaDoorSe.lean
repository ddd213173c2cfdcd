/- The walk of the law's function long. -/
import Derived.Test.YtodbjjlgnnjmoaaDoorSd
namespace Go.Proofs.YtodbjjlgnnjmoaaDoor
open Go.RowKit
/-- What holds while a group is written. -/
structure LS (w : World) (b : Nat → Int) (W : World) : Prop where
  q : HB W w.heap.size (ac 6 b) 25
  hb : Below w.heap.size w W
theorem LS.drew {w : World} {b : Nat → Int} {W : World} (h : LS w b W) : LS w b W.drew := ⟨h.q.drew, h.hb.drew⟩
theorem LS.keep {w : World} {b : Nat → Int} {W W' : World} (h : LS w b W) (k : Below W.heap.size W W') : LS w b W' := ⟨h.q.below k h.q.lt, h.hb.con k⟩
theorem strAdd (x y : List UInt8) (hx : x.length ≤ 8388608) (hy : y.length ≤ 8388608) (W : World) : (Op.stringOp .add ⟨x.toArray⟩ ⟨y.toArray⟩).run Tryd.prog W = .ok (.string ⟨(x ++ y).toArray⟩) W :=
  run_string_add_lists (P := Tryd.prog) W x y (by omega) (by omega)
set_option maxRecDepth 100000 in
set_option maxHeartbeats 4000000 in
theorem long_any (b : Nat → Int) (hb8 : ∀ i, 0 ≤ b i ∧ b i ≤ 255) (least : Nat) (up : Bool) (gap most : Nat) (h4 : least ≤ 4) (hg : gap < 8) (hm : most ≤ 8) (w : World) :
    Calls Tryd.prog 13 #[adr 6 b, .int .i64 least, .bool up, .int .i64 gap, .int .i64 most] w fun e w' => e = .returned (.string ⟨(longT b least up gap most).toArray⟩) ∧ Below w.heap.size w w' := by
  have q0 := HB.new w (ac 6 b) 25
  have hb0 := (Below.rfl' w).al (adrO 6 b)
  have HB8 : Hid (∀ i, 0 ≤ b i ∧ b i ≤ 255) := hb8
  clear hb8
  go_enter Tryd.func13, Tryd.ntmps13
  go_wp2
  go_loop [12] (fun v => ∃ k : Nat, v = .int .i64 k ∧ k ≤ 8 ∧ gap + k ≤ 8 ∧ lgo b gap most (9 - k) k = leftF b gap most) (fun v => 9 - (intOf v).toNat)
  case atStart => exact ⟨0, rfl, by omega, by omega, rfl⟩
  case round =>
    obtain ⟨k, rfl, hk, hgk, hr⟩ := hrel
    have HR := Lib.hid hr
    clear hr
    have c1 := fun (h : gap + k < 8) => q0.adrB (2 * (gap + k)) (by omega)
    have c2 := fun (h : gap + k < 8) => q0.adrB (2 * (gap + k) + 1) (by omega)
    by_cases hc : gap + k < 8 ∧ k < most ∧ b (2 * (gap + k)) = 0 ∧ b (2 * (gap + k) + 1) = 0
    · obtain ⟨e1, e2, e3, e4⟩ := hc
      have d1 := c1 e1
      have d2 := c2 e1
      rw [e3] at d1
      rw [e4] at d2
      have HN : Hid (lgo b gap most (9 - (k + 1)) (k + 1) = leftF b gap most) := by
        have h := HR.out
        rw [show 9 - k = (9 - (k + 1)) + 1 by omega, lgo, if_pos ⟨e1, e2, e3, e4⟩] at h
        exact h
      clear c1 c2 e3 e4
      go_wp2
      go_round
      case rel => exact ⟨k + 1, by go_num, by omega, by omega, HN.out⟩
      case measure => simp [intOf]; omega
    · have HL : Hid (leftF b gap most = k) := by
        have h := HR.out
        rw [show 9 - k = (8 - k) + 1 by omega, lgo, if_neg hc] at h
        exact h.symm
      have hcase : ¬ gap + k < 8 ∨ (gap + k < 8 ∧ ¬ k < most) ∨ (gap + k < 8 ∧ k < most ∧ (b (2 * (gap + k)) == 0) = false) ∨ (gap + k < 8 ∧ k < most ∧ (b (2 * (gap + k)) == 0) = true ∧ (b (2 * (gap + k) + 1) == 0) = false) := by
        by_cases x1 : gap + k < 8
        · by_cases x2 : k < most
          · by_cases x3 : b (2 * (gap + k)) = 0
            · by_cases x4 : b (2 * (gap + k) + 1) = 0
              · exact absurd ⟨x1, x2, x3, x4⟩ hc
              · exact .inr (.inr (.inr ⟨x1, x2, by simp [x3], by simpa using x4⟩))
            · exact .inr (.inr (.inl ⟨x1, x2, by simpa using x3⟩))
          · exact .inr (.inl ⟨x1, x2⟩)
        · exact .inl x1
      clear hc HR
      rcases hcase with e1 | ⟨e1, e2⟩ | ⟨e1, e2, e3⟩ | ⟨e1, e2, e3, e4⟩
      all_goals
        try have d1 := c1 e1
        try have d2 := c2 e1
        try clear c1
        try clear c2
        go_wp2
        go_loopw [11, 13] (fun v i wr => ∃ n : Nat, n ≤ 8 ∧ i = .int .i64 n ∧ v = .string ⟨(longS (longP b least up) gap k n).toArray⟩ ∧ LS w b wr ∧ (k = 0 ∨ n ≤ gap ∨ gap + k ≤ n)) (fun _ i _ => 8 - (intOf i).toNat)
        case atStart => exact ⟨0, by omega, rfl, by rw [longS_zero], ⟨q0, hb0⟩, .inr (.inl (by omega))⟩
        case round =>
          obtain ⟨n, hn, rfl, rfl, hS, hpos⟩ := hrel
          have HLE : Hid (∀ n, n ≤ 8 → (longS (longP b least up) gap k n).length ≤ 100) := fun n hn => longS_le _ (longP_le b HB8.out least up h4) gap k n hn (by omega)
          by_cases hn8 : n < 8
          · by_cases hA : n = gap ∧ 0 < k
            · obtain ⟨rfl, hk0⟩ := hA
              have ad1 := strAdd (longS (longP b least up) n k n) [58, 58] (by have := HLE.out n hn; omega) (by simp)
              go_wp2
              go_roundw
              case rel => exact ⟨n + k, by omega, by go_num, by rw [longS_gap _ _ _ hk0], hS, .inr (.inr (Nat.le_refl _))⟩
              case measure => simp [intOf]; omega
            · have hcase : (¬ 0 < n ∧ ¬ 0 < k ∧ n = gap) ∨ (¬ 0 < n ∧ ¬ n = gap) ∨ (0 < n ∧ 0 < k ∧ n = gap + k ∧ ¬ n = gap) ∨ (0 < n ∧ ¬ 0 < k ∧ n = gap) ∨ (0 < n ∧ ¬ 0 < k ∧ ¬ n = gap) ∨ (0 < n ∧ 0 < k ∧ ¬ n = gap ∧ ¬ n = gap + k) := by omega
              have hnk : (0 < n ∧ 0 < k ∧ ¬ n = gap ∧ ¬ n = gap + k) → n < gap ∨ gap + k < n := by omega
              have HNK := Lib.hid hnk
              clear hA hpos hnk
              have HEQ : Hid (n = gap → ((n : Int) == (gap : Int)) = true) := fun h => by simp [h]
              have HNE : Hid (¬ n = gap → ((n : Int) == (gap : Int)) = false) := fun h => by simp; omega
              have HEQ2 : Hid (n = gap + k → ((n : Int) == (gap : Int) + (k : Int)) = true) := fun h => by simp; omega
              have HNE2 : Hid (¬ n = gap + k → ((n : Int) == (gap : Int) + (k : Int)) = false) := fun h => by simp; omega
              have hbn1 := HB8.out (2 * n)
              have hbn2 := HB8.out (2 * n + 1)
              have HX : ∀ W, Calls Tryd.prog 29 #[.int .i64 (b (2 * n) * 256 + b (2 * n + 1)), .int .i64 least, .bool up] W fun e w' => e = .returned (.string ⟨(longP b least up n).toArray⟩) ∧ Below W.heap.size W w' := fun W => by
                have h := hex_any (grp b n) least up (grp_lt HB8.out n) h4 W
                have e : ((grp b n : Nat) : Int) = b (2 * n) * 256 + b (2 * n + 1) := by
                  unfold grp
                  omega
                rw [e] at h
                exact h
              have HXX := Lib.hid HX
              clear HX
              have HPL := Lib.hid (longP_le b HB8.out least up h4 n)
              have HC1 : Hid (∀ W, LS w b W → W.cell? ⟨w.heap.size, 1 + 2 * n, none⟩ = some (.int .u8 (b (2 * n)))) := fun W h => h.q.adrB (2 * n) (by omega)
              have HC2 : Hid (∀ W, LS w b W → W.cell? ⟨w.heap.size, 1 + (2 * n + 1), none⟩ = some (.int .u8 (b (2 * n + 1)))) := fun W h => h.q.adrB (2 * n + 1) (by omega)
              obtain ⟨S, hSd⟩ : ∃ S, longS (longP b least up) gap k n = S := ⟨_, rfl⟩
              obtain ⟨p, hpd⟩ : ∃ p, longP b least up n = p := ⟨_, rfl⟩
              have HSD := Lib.hid hSd
              have hSl := HLE.out n hn
              rw [hSd] at hSl ⊢
              rw [hpd] at HPL HXX
              have HPD := Lib.hid hpd
              have ad1 := strAdd S [58] (by omega) (by simp)
              have ad2 := strAdd (S ++ [58]) p (by simp; omega) (by have := HPL.out; omega)
              have ad3 := strAdd S p (by omega) (by have := HPL.out; omega)
              clear hSd hpd hSl
              rcases hcase with ⟨hn0, hk0, hq⟩ | ⟨hn0, hq⟩ | ⟨hn0, hk0, hq2, hq⟩ | ⟨hn0, hk0, hq⟩ | ⟨hn0, hk0, hq⟩ | ⟨hn0, hk0, hq, hq2⟩
              case inl =>
                have hq' := HEQ.out hq
                have HQ := Lib.hid hq
                clear hq
                go_wp2_with fail
                all_goals
                  have p1 : IntKind.i64.wrap (2 * (n : Int)) = 2 * (n : Int) := IntWalk.i64_in _ (by omega)
                  have p2 : 0 ≤ 2 * (n : Int) := by omega
                  have p3 : 2 * (n : Int) < 16 := by omega
                  have p4 : (2 * (n : Int)).toNat = 2 * n := by omega
                  have p5 : IntKind.i64.wrap (2 * (n : Int) + 1) = 2 * (n : Int) + 1 := IntWalk.i64_in _ (by omega)
                  have p6 : 0 ≤ 2 * (n : Int) + 1 := by omega
                  have p7 : 2 * (n : Int) + 1 < 16 := by omega
                  have p8 : (2 * (n : Int) + 1).toNat = 2 * n + 1 := by omega
                  have p9 : IntKind.i64.wrap (b (2 * n)) = b (2 * n) := IntWalk.i64_in _ (by omega)
                  have p10 : IntKind.i64.wrap (b (2 * n + 1)) = b (2 * n + 1) := IntWalk.i64_in _ (by omega)
                  have p11 : IntKind.i64.wrap (b (2 * n) * 256) = b (2 * n) * 256 := IntWalk.i64_in _ (by omega)
                  have p12 : IntKind.i64.wrap (b (2 * n) * 256 + b (2 * n + 1)) = b (2 * n) * 256 + b (2 * n + 1) := IntWalk.i64_in _ (by omega)
                  refine region_quiet (C := LS w b) (by kernel_rfl) (by kernel_rfl) hS.drew ?_
                  repeat (first
                    | (refine wpQuiet_step (fun K hK => ?_); go_simp; first
                      | (refine hK _ ?_; clear hK K)
                      | (refine ⟨_, fun _ _ => rfl, hK _ ?_⟩; clear hK K)
                      | (apply Exists.intro; refine ⟨fun W hW => ?_, hK _ ?_⟩; (first | (go_at_call 29; exact (HXX.out W).mono (fun e w' h => ⟨h.1, hW.keep h.2⟩)) | (rw [HC1.out W hW]; exact And.intro rfl rfl) | (rw [HC2.out W hW]; exact And.intro rfl rfl)); clear hK K)))
                  refine wpQuiet_nil ?_
                  intro w5 hS5
                  go_wp2
                  go_roundw
                  case rel => exact ⟨n + 1, by omega, by go_num, by rw [← HSD.out, ← HPD.out, show n = 0 by omega, longS_first _ _ _ (.inl (by omega)), longS_zero]; rfl, hS5, .inl (by omega)⟩
                  case measure => simp [intOf]; omega
              case inr.inl =>
                have hq' := HNE.out hq
                have HQ := Lib.hid hq
                clear hq
                go_wp2_with fail
                all_goals
                  have p1 : IntKind.i64.wrap (2 * (n : Int)) = 2 * (n : Int) := IntWalk.i64_in _ (by omega)
                  have p2 : 0 ≤ 2 * (n : Int) := by omega
                  have p3 : 2 * (n : Int) < 16 := by omega
                  have p4 : (2 * (n : Int)).toNat = 2 * n := by omega
                  have p5 : IntKind.i64.wrap (2 * (n : Int) + 1) = 2 * (n : Int) + 1 := IntWalk.i64_in _ (by omega)
                  have p6 : 0 ≤ 2 * (n : Int) + 1 := by omega
                  have p7 : 2 * (n : Int) + 1 < 16 := by omega
                  have p8 : (2 * (n : Int) + 1).toNat = 2 * n + 1 := by omega
                  have p9 : IntKind.i64.wrap (b (2 * n)) = b (2 * n) := IntWalk.i64_in _ (by omega)
                  have p10 : IntKind.i64.wrap (b (2 * n + 1)) = b (2 * n + 1) := IntWalk.i64_in _ (by omega)
                  have p11 : IntKind.i64.wrap (b (2 * n) * 256) = b (2 * n) * 256 := IntWalk.i64_in _ (by omega)
                  have p12 : IntKind.i64.wrap (b (2 * n) * 256 + b (2 * n + 1)) = b (2 * n) * 256 + b (2 * n + 1) := IntWalk.i64_in _ (by omega)
                  refine region_quiet (C := LS w b) (by kernel_rfl) (by kernel_rfl) hS.drew ?_
                  repeat (first
                    | (refine wpQuiet_step (fun K hK => ?_); go_simp; first
                      | (refine hK _ ?_; clear hK K)
                      | (refine ⟨_, fun _ _ => rfl, hK _ ?_⟩; clear hK K)
                      | (apply Exists.intro; refine ⟨fun W hW => ?_, hK _ ?_⟩; (first | (go_at_call 29; exact (HXX.out W).mono (fun e w' h => ⟨h.1, hW.keep h.2⟩)) | (rw [HC1.out W hW]; exact And.intro rfl rfl) | (rw [HC2.out W hW]; exact And.intro rfl rfl)); clear hK K)))
                  refine wpQuiet_nil ?_
                  intro w5 hS5
                  go_wp2
                  go_roundw
                  case rel => exact ⟨n + 1, by omega, by go_num, by rw [← HSD.out, ← HPD.out, show n = 0 by omega, longS_first _ _ _ (.inr (by have := HQ.out; omega)), longS_zero]; rfl, hS5, .inr (.inl (by have := HQ.out; omega))⟩
                  case measure => simp [intOf]; omega
              case inr.inr.inl =>
                have hq' := HNE.out hq
                have hq2' := HEQ2.out hq2
                have HQ := Lib.hid hq2
                clear hq hq2
                go_wp2_with fail
                all_goals
                  have p1 : IntKind.i64.wrap (2 * (n : Int)) = 2 * (n : Int) := IntWalk.i64_in _ (by omega)
                  have p2 : 0 ≤ 2 * (n : Int) := by omega
                  have p3 : 2 * (n : Int) < 16 := by omega
                  have p4 : (2 * (n : Int)).toNat = 2 * n := by omega
                  have p5 : IntKind.i64.wrap (2 * (n : Int) + 1) = 2 * (n : Int) + 1 := IntWalk.i64_in _ (by omega)
                  have p6 : 0 ≤ 2 * (n : Int) + 1 := by omega
                  have p7 : 2 * (n : Int) + 1 < 16 := by omega
                  have p8 : (2 * (n : Int) + 1).toNat = 2 * n + 1 := by omega
                  have p9 : IntKind.i64.wrap (b (2 * n)) = b (2 * n) := IntWalk.i64_in _ (by omega)
                  have p10 : IntKind.i64.wrap (b (2 * n + 1)) = b (2 * n + 1) := IntWalk.i64_in _ (by omega)
                  have p11 : IntKind.i64.wrap (b (2 * n) * 256) = b (2 * n) * 256 := IntWalk.i64_in _ (by omega)
                  have p12 : IntKind.i64.wrap (b (2 * n) * 256 + b (2 * n + 1)) = b (2 * n) * 256 + b (2 * n + 1) := IntWalk.i64_in _ (by omega)
                  refine region_quiet (C := LS w b) (by kernel_rfl) (by kernel_rfl) hS.drew ?_
                  repeat (first
                    | (refine wpQuiet_step (fun K hK => ?_); go_simp; first
                      | (refine hK _ ?_; clear hK K)
                      | (refine ⟨_, fun _ _ => rfl, hK _ ?_⟩; clear hK K)
                      | (apply Exists.intro; refine ⟨fun W hW => ?_, hK _ ?_⟩; (first | (go_at_call 29; exact (HXX.out W).mono (fun e w' h => ⟨h.1, hW.keep h.2⟩)) | (rw [HC1.out W hW]; exact And.intro rfl rfl) | (rw [HC2.out W hW]; exact And.intro rfl rfl)); clear hK K)))
                  refine wpQuiet_nil ?_
                  intro w5 hS5
                  go_wp2
                  go_roundw
                  case rel => exact ⟨n + 1, by omega, by go_num, by rw [← HSD.out, ← HPD.out, HQ.out, longS_back _ _ _ hk0], hS5, .inr (.inr (by have := HQ.out; omega))⟩
                  case measure => simp [intOf]; omega
              case inr.inr.inr.inl =>
                have hq' := HEQ.out hq
                have HQ := Lib.hid hq
                clear hq
                go_wp2_with fail
                all_goals
                  have p1 : IntKind.i64.wrap (2 * (n : Int)) = 2 * (n : Int) := IntWalk.i64_in _ (by omega)
                  have p2 : 0 ≤ 2 * (n : Int) := by omega
                  have p3 : 2 * (n : Int) < 16 := by omega
                  have p4 : (2 * (n : Int)).toNat = 2 * n := by omega
                  have p5 : IntKind.i64.wrap (2 * (n : Int) + 1) = 2 * (n : Int) + 1 := IntWalk.i64_in _ (by omega)
                  have p6 : 0 ≤ 2 * (n : Int) + 1 := by omega
                  have p7 : 2 * (n : Int) + 1 < 16 := by omega
                  have p8 : (2 * (n : Int) + 1).toNat = 2 * n + 1 := by omega
                  have p9 : IntKind.i64.wrap (b (2 * n)) = b (2 * n) := IntWalk.i64_in _ (by omega)
                  have p10 : IntKind.i64.wrap (b (2 * n + 1)) = b (2 * n + 1) := IntWalk.i64_in _ (by omega)
                  have p11 : IntKind.i64.wrap (b (2 * n) * 256) = b (2 * n) * 256 := IntWalk.i64_in _ (by omega)
                  have p12 : IntKind.i64.wrap (b (2 * n) * 256 + b (2 * n + 1)) = b (2 * n) * 256 + b (2 * n + 1) := IntWalk.i64_in _ (by omega)
                  refine region_quiet (C := LS w b) (by kernel_rfl) (by kernel_rfl) hS.drew ?_
                  repeat (first
                    | (refine wpQuiet_step (fun K hK => ?_); go_simp; first
                      | (refine hK _ ?_; clear hK K)
                      | (refine ⟨_, fun _ _ => rfl, hK _ ?_⟩; clear hK K)
                      | (apply Exists.intro; refine ⟨fun W hW => ?_, hK _ ?_⟩; (first | (go_at_call 29; exact (HXX.out W).mono (fun e w' h => ⟨h.1, hW.keep h.2⟩)) | (rw [HC1.out W hW]; exact And.intro rfl rfl) | (rw [HC2.out W hW]; exact And.intro rfl rfl)); clear hK K)))
                  refine wpQuiet_nil ?_
                  intro w5 hS5
                  go_wp2
                  go_roundw
                  case rel => exact ⟨n + 1, by omega, by go_num, by rw [← HSD.out, ← HPD.out, longS_next _ _ _ _ hn0 (.inl (by omega)), List.append_assoc]; rfl, hS5, .inl (by omega)⟩
                  case measure => simp [intOf]; omega
              case inr.inr.inr.inr.inl =>
                have hq' := HNE.out hq
                have HQ := Lib.hid hq
                clear hq
                go_wp2_with fail
                all_goals
                  have p1 : IntKind.i64.wrap (2 * (n : Int)) = 2 * (n : Int) := IntWalk.i64_in _ (by omega)
                  have p2 : 0 ≤ 2 * (n : Int) := by omega
                  have p3 : 2 * (n : Int) < 16 := by omega
                  have p4 : (2 * (n : Int)).toNat = 2 * n := by omega
                  have p5 : IntKind.i64.wrap (2 * (n : Int) + 1) = 2 * (n : Int) + 1 := IntWalk.i64_in _ (by omega)
                  have p6 : 0 ≤ 2 * (n : Int) + 1 := by omega
                  have p7 : 2 * (n : Int) + 1 < 16 := by omega
                  have p8 : (2 * (n : Int) + 1).toNat = 2 * n + 1 := by omega
                  have p9 : IntKind.i64.wrap (b (2 * n)) = b (2 * n) := IntWalk.i64_in _ (by omega)
                  have p10 : IntKind.i64.wrap (b (2 * n + 1)) = b (2 * n + 1) := IntWalk.i64_in _ (by omega)
                  have p11 : IntKind.i64.wrap (b (2 * n) * 256) = b (2 * n) * 256 := IntWalk.i64_in _ (by omega)
                  have p12 : IntKind.i64.wrap (b (2 * n) * 256 + b (2 * n + 1)) = b (2 * n) * 256 + b (2 * n + 1) := IntWalk.i64_in _ (by omega)
                  refine region_quiet (C := LS w b) (by kernel_rfl) (by kernel_rfl) hS.drew ?_
                  repeat (first
                    | (refine wpQuiet_step (fun K hK => ?_); go_simp; first
                      | (refine hK _ ?_; clear hK K)
                      | (refine ⟨_, fun _ _ => rfl, hK _ ?_⟩; clear hK K)
                      | (apply Exists.intro; refine ⟨fun W hW => ?_, hK _ ?_⟩; (first | (go_at_call 29; exact (HXX.out W).mono (fun e w' h => ⟨h.1, hW.keep h.2⟩)) | (rw [HC1.out W hW]; exact And.intro rfl rfl) | (rw [HC2.out W hW]; exact And.intro rfl rfl)); clear hK K)))
                  refine wpQuiet_nil ?_
                  intro w5 hS5
                  go_wp2
                  go_roundw
                  case rel => exact ⟨n + 1, by omega, by go_num, by rw [← HSD.out, ← HPD.out, longS_next _ _ _ _ hn0 (.inl (by omega)), List.append_assoc]; rfl, hS5, .inl (by omega)⟩
                  case measure => simp [intOf]; omega
              case inr.inr.inr.inr.inr =>
                have hq' := HNE.out hq
                have hq2' := HNE2.out hq2
                have HQ := Lib.hid (HNK.out ⟨hn0, hk0, hq, hq2⟩)
                clear hq hq2
                go_wp2_with fail
                all_goals
                  have p1 : IntKind.i64.wrap (2 * (n : Int)) = 2 * (n : Int) := IntWalk.i64_in _ (by omega)
                  have p2 : 0 ≤ 2 * (n : Int) := by omega
                  have p3 : 2 * (n : Int) < 16 := by omega
                  have p4 : (2 * (n : Int)).toNat = 2 * n := by omega
                  have p5 : IntKind.i64.wrap (2 * (n : Int) + 1) = 2 * (n : Int) + 1 := IntWalk.i64_in _ (by omega)
                  have p6 : 0 ≤ 2 * (n : Int) + 1 := by omega
                  have p7 : 2 * (n : Int) + 1 < 16 := by omega
                  have p8 : (2 * (n : Int) + 1).toNat = 2 * n + 1 := by omega
                  have p9 : IntKind.i64.wrap (b (2 * n)) = b (2 * n) := IntWalk.i64_in _ (by omega)
                  have p10 : IntKind.i64.wrap (b (2 * n + 1)) = b (2 * n + 1) := IntWalk.i64_in _ (by omega)
                  have p11 : IntKind.i64.wrap (b (2 * n) * 256) = b (2 * n) * 256 := IntWalk.i64_in _ (by omega)
                  have p12 : IntKind.i64.wrap (b (2 * n) * 256 + b (2 * n + 1)) = b (2 * n) * 256 + b (2 * n + 1) := IntWalk.i64_in _ (by omega)
                  refine region_quiet (C := LS w b) (by kernel_rfl) (by kernel_rfl) hS.drew ?_
                  repeat (first
                    | (refine wpQuiet_step (fun K hK => ?_); go_simp; first
                      | (refine hK _ ?_; clear hK K)
                      | (refine ⟨_, fun _ _ => rfl, hK _ ?_⟩; clear hK K)
                      | (apply Exists.intro; refine ⟨fun W hW => ?_, hK _ ?_⟩; (first | (go_at_call 29; exact (HXX.out W).mono (fun e w' h => ⟨h.1, hW.keep h.2⟩)) | (rw [HC1.out W hW]; exact And.intro rfl rfl) | (rw [HC2.out W hW]; exact And.intro rfl rfl)); clear hK K)))
                  refine wpQuiet_nil ?_
                  intro w5 hS5
                  go_wp2
                  go_roundw
                  case rel => 
                    rcases HQ.out with hlt | hlt
                    · exact ⟨n + 1, by omega, by go_num, by rw [← HSD.out, ← HPD.out, longS_next _ _ _ _ hn0 (.inr hlt), List.append_assoc]; rfl, hS5, .inr (.inl (by omega))⟩
                    · exact ⟨n + 1, by omega, by go_num, by rw [← HSD.out, ← HPD.out, longS_more _ _ _ _ hk0 hlt, List.append_assoc]; rfl, hS5, .inr (.inr (by omega))⟩
                  case measure => simp [intOf]; omega
          · obtain rfl : n = 8 := by omega
            have HT : Hid (longT b least up gap most = longS (longP b least up) gap k 8) := by
              show _ = _
              unfold longT
              rw [HL.out]
            go_wp2
            go_ret
            rw [HT.out]
            exact ⟨rfl, hS.hb⟩
end Go.Proofs.YtodbjjlgnnjmoaaDoor
