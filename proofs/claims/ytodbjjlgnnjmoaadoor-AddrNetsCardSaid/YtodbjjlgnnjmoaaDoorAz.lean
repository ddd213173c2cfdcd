/- AddrNets: what it computes. -/
import Derived.Test.YtodbjjlgnnjmoaaDoorAv
import Derived.Test.YtodbjjlgnnjmoaaDoorAw
import Derived.Test.YtodbjjlgnnjmoaaDoorAx
import Derived.Test.YtodbjjlgnnjmoaaDoorAy
namespace Go.Proofs.YtodbjjlgnnjmoaaDoor
open Go.RowKit
/-- What the mask of the second is, and whether it is the first's. -/
theorem nets_second (v : Int) (b : Nat → Int) (v' : Int) (b' : Nat → Int) (n : Int) (h1 : maskOK v b n = true) :
    ∃ F yv yb I, (∀ W, Calls Tryd.prog 15 #[adr v' b', .int .i64 n] W fun e w' => e = .returned (.tuple #[adr yv yb, .int .i64 F]) ∧ Below W.heap.size W w') ∧
      ((F = 1 ∧ I = false) ∨ (F = 0 ∧ eqA v (maskF n b) yv yb = I)) ∧ withinF v b v' b' n = I ∧ withinF v' b' v b n = I := by
  cases h2 : maskOK v' b' n with
  | false =>
    have hw : withinF v b v' b' n = false := by unfold withinF; rw [h1, h2]; rfl
    exact ⟨1, 0, z0, false, fun W => mask_no h2 W, .inl ⟨rfl, rfl⟩, hw, (withinF_comm v b v' b' n).trans hw⟩
  | true =>
    have hw : withinF v b v' b' n = eqA v (maskF n b) v' (maskF n b') := by unfold withinF; rw [h1, h2]; rfl
    exact ⟨0, v', maskF n b', _, fun W => mask_yes h2 W, .inr ⟨rfl, rfl⟩, hw, (withinF_comm v b v' b' n).trans hw⟩
theorem nets_any (v v' : Int) (b b' : Nat → Int) (hb : ∀ i, 0 ≤ b i ∧ b i ≤ 255) (hb' : ∀ i, 0 ≤ b' i ∧ b' i ≤ 255) (n k : Int) (w : World) (m : Int) (he : Env m w) :
    Calls Tryd.prog 6 #[adr v b, adr v' b', .int .i64 n, .int .i64 k] w fun e w' => e = .returned (.bool true) ∧ Below w.heap.size w w' := by
  cases h1 : maskOK v b n with
  | false => exact nets_no v v' b b' n k h1 w m he
  | true =>
    obtain ⟨F, yv, yb, I, C2, hF, I1, I2⟩ := nets_second v b v' b' n h1
    have C1 := fun W => mask_yes h1 W
    have hmm := maskOK_mask hb h1 k
    have hle := maskOK_le h1
    have hL := less_mask hb v n
    have hW1 := within_mask hb h1
    have hW2 := (withinF_comm v b v (maskF n b) n).trans hW1
    have hW3 : I = true → k ≤ n → 0 ≤ k → withinF v b v' b' k = true := fun hI hkn h0 => within_wider hb hb' (I1.trans hI) h0 hkn
    rcases maskOK_46 h1 with rfl | rfl
    · have hm : mostF 4 = 32 := rfl
      rw [hm] at hmm hle
      by_cases k0 : k < 0
      · have h3 : maskOK 4 (maskF n b) k = false := by rw [hmm]; simp; omega
        exact nets_4_neg v' b b' n k F yv 0 _ _ yb z0 _ I w m he C1 C2 (fun W => mask_no h3 W) (fun W => mask_any 4 b (min n k) W) hF I1 I2 k0
      · by_cases k1 : 32 < k
        · have h3 : maskOK 4 (maskF n b) k = false := by rw [hmm]; simp; omega
          exact nets_4_big v' b b' n k F yv 0 _ _ yb z0 _ I w m he C1 C2 (fun W => mask_no h3 W) (fun W => mask_any 4 b (min n k) W) hF I1 I2 k0 k1
        · have h3 : maskOK 4 (maskF n b) k = true := by rw [hmm]; simp; omega
          have h4 : maskOK 4 b (min n k) = true := maskOK_in h1 (by omega) (by rw [hm]; omega)
          exact nets_4_in v' b b' n k F yv 4 4 yb _ _ I w m he C1 C2 (fun W => mask_yes h3 W) (fun W => mask_yes h4 W) hF I1 I2 k0 k1 (mask_mask 4 n hb k) hL hW1 hW2 (fun hI hkn => hW3 hI hkn (by omega))
    · have hm : mostF 6 = 128 := rfl
      rw [hm] at hmm hle
      by_cases k0 : k < 0
      · have h3 : maskOK 6 (maskF n b) k = false := by rw [hmm]; simp; omega
        exact nets_6_neg v' b b' n k F yv 0 _ _ yb z0 _ I w m he C1 C2 (fun W => mask_no h3 W) (fun W => mask_any 6 b (min n k) W) hF I1 I2 k0
      · by_cases k1 : 128 < k
        · have h3 : maskOK 6 (maskF n b) k = false := by rw [hmm]; simp; omega
          exact nets_6_big v' b b' n k F yv 0 _ _ yb z0 _ I w m he C1 C2 (fun W => mask_no h3 W) (fun W => mask_any 6 b (min n k) W) hF I1 I2 k0 k1
        · have h3 : maskOK 6 (maskF n b) k = true := by rw [hmm]; simp; omega
          have h4 : maskOK 6 b (min n k) = true := maskOK_in h1 (by omega) (by rw [hm]; omega)
          exact nets_6_in v' b b' n k F yv 6 6 yb _ _ I w m he C1 C2 (fun W => mask_yes h3 W) (fun W => mask_yes h4 W) hF I1 I2 k0 k1 (mask_mask 6 n hb k) hL hW1 hW2 (fun hI hkn => hW3 hI hkn (by omega))
end Go.Proofs.YtodbjjlgnnjmoaaDoor
