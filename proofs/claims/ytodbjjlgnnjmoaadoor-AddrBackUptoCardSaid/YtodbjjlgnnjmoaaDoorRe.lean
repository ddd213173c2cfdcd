/- The reference's function fromGroups. -/
import Derived.Test.YtodbjjlgnnjmoaaDoorRd
import Derived.Test.YtodbjjlgnnjmoaaDoorAl
namespace Go.Proofs.YtodbjjlgnnjmoaaDoor
open Go.RowKit
/-- A row of numbers, opened. -/
theorem owns_nats {w : World} {base : Nat} {v : Value} {n : Nat} {G : List Nat} (h : w.ownsRow base 3 1 v n (nats G)) (hn : 0 < n) :
    ∃ (g cap : Nat) (cur : Array Value), v = .slice (some ⟨g, 0, none⟩) n cap ∧ base ≤ g ∧ HB w g cur 3 ∧ ∀ k, k < n → cur[k]? = some (Value.int .i64 ((G.getD k 0 : Nat) : Int)) := by
  obtain ⟨hl, h⟩ := h
  rcases h with ⟨_, rfl⟩ | ⟨g, cap, cur, rfl, hg, hb, hnc, _, hcs, htake⟩
  · exact absurd hn (Nat.lt_irrefl 0)
  · refine ⟨g, cap, cur, rfl, hg, hb, fun k hk => ?_⟩
    rw [List.length_map, Nat.mul_one] at hl
    have h1 : (nats G)[k]? = some (Value.int .i64 ((G.getD k 0 : Nat) : Int)) := by
      rw [List.getElem?_map, List.getD_eq_getElem?_getD, List.getElem?_eq_getElem (by omega)]
      rfl
    rw [← htake, List.getElem?_take] at h1
    rw [if_pos (by omega)] at h1
    simpa using h1
set_option maxRecDepth 100000 in
set_option maxHeartbeats 1000000 in
theorem from_any (v : Value) (G : List Nat) (base : Nat) (w : World) (hG : ∀ k, G.getD k 0 < 65536) (hown : w.ownsRow base 3 1 v 8 (nats G)) :
    Calls Tryd.prog 36 #[v] w fun e w' => e = .returned (adr 6 (byte6 G)) ∧ Below w.heap.size w w' := by
  obtain ⟨g, cap, cur, rfl, hg, hrow, hcell⟩ := owns_nats hown (by omega)
  have HC := Lib.hid hcell
  have HG : Hid (∀ k, G.getD k 0 < 65536) := hG
  have hgl := hrow.lt
  have q0 := (HB.new w (ac 0 z0) 25).alloc (adrO 6 z0)
  have q1 := HB.newAt (w := w.alloc (adrO 0 z0)) (g := w.heap.size + 1) (by simp) (ac 6 z0) 25
  have qr := (hrow.alloc (adrO 0 z0)).alloc (adrO 6 z0)
  have hb := ((Below.rfl' w).al (adrO 0 z0)).al (adrO 6 z0)
  clear hcell hG hown hrow hg
  go_enter Tryd.func36, Tryd.ntmps36
  go_wp2_with (first | (refine al25 rfl rfl ?_) | (refine bu25_6 rfl rfl ?_) | (refine st25 rfl _ _ rfl _ rfl _ _ _ _ rfl (HB.new _ _ _) ?_; rw [World.setRow_alloc_new]))
  go_loopw [4] (fun i wr => ∃ k : Nat, k ≤ 8 ∧ i = .int .i64 k ∧ Below w.heap.size w wr ∧ HB wr w.heap.size (ac 0 z0) 25 ∧ HB wr (w.heap.size + 1) (ac 6 (frontB G k)) 25 ∧ HB wr g cur 3) (fun i _ => 8 - (intOf i).toNat)
  case atStart => exact ⟨0, by omega, rfl, hb, q0, q1, qr⟩
  case round =>
    obtain ⟨k, hk, rfl, hbr, p0, p1, pr⟩ := hrel
    clear hb q0 q1 qr
    by_cases hlt : k < 8
    · obtain ⟨gk, hgk⟩ : ∃ gk, G.getD k 0 = gk := ⟨_, rfl⟩
      have hv := HG.out k
      have hc : wr.cell? ⟨g, k, none⟩ = some (.int .i64 (gk : Int)) := by
        rw [pr.cell k, HC.out k hlt, hgk]
      rw [hgk] at hv
      have HGK := Lib.hid hgk
      clear hgk
      have c1 := p1.adrB (2 * k) (by omega)
      have c2 := p1.adrB (2 * k + 1) (by omega)
      have f1 := p1.free (1 + 2 * k)
      have f2 := p1.free (1 + (2 * k + 1))
      go_wp2
      go_roundw
      case rel =>
        refine ⟨k + 1, by omega, by go_num, (hbr.setCell (by simp) _).setCell (by simp) _, (p0.setOther (by simp) _).setOther (by simp) _, two_set p1 (2 * k) (2 * k + 1) _ _ (by omega) (by omega) (fun n hn => ?_), (pr.setOther (by simp; omega) _).setOther (by simp; omega) _⟩
        rw [front_step G k n hn, HGK.out]
        have e1 : ((gk / 256 : Nat) : Int) = (gk : Int) / 256 := by omega
        have e2 : ((gk % 256 : Nat) : Int) = (gk : Int) % 256 := by omega
        rw [e1, e2]
      case measure => simp [intOf]; omega
    · obtain rfl : k = 8 := by omega
      go_wp2_with (first | (refine ld25 rfl _ rfl _ rfl _ _ p1 ?_) | (refine st25 rfl _ _ rfl _ rfl _ _ _ _ rfl p0 ?_))
      refine ret25o rfl rfl rfl (p0.row _) ⟨?_, hbr.row (Nat.le_refl _) _⟩
      exact congrArg (fun c => Ending.returned (.agg c)) (ac_congr 6 (b := frontB G 8) (b' := byte6 G) fun i hi => by unfold frontB; rw [if_pos (by omega)])
end Go.Proofs.YtodbjjlgnnjmoaaDoor
