/- Contracts of Within, Less, four. -/
import Derived.Test.YtodbjjlgnnjmoaaDoorAb
import Derived.Deep.WholeRow
namespace Go.Proofs.YtodbjjlgnnjmoaaDoor
open Go.RowKit
section
variable {ops : Array Oper} {rest : List Oper} {o : Oper} {a : Act} {w : World} {Q : Exit → Act → World → Prop}
/-- An address is read whole, behind a guard. -/
theorem ld25g (hw : Region.wanted o (yielded ops a.tmps) = true) (x : Operand) (ho : o.op = .load 25 x) (g : Nat) (hx : a.eval x = .pointer (some ⟨g, 0, none⟩)) (v : Int) (b : Nat → Int) (hg : HB w g (ac v b) 25)
    (h : wpList Tryd.prog ops Q rest (a.put o.dst (adr v b)) w) : wpList Tryd.prog ops Q (o :: rest) a w :=
  wpList_step fun K hK => by
    rw [if_pos hw]
    exact wp_load_row 25 x ho g hx 25 (ac v b) (0, 0) _ hg Tryd.underlying25 rfl info25 (hK _ _ h)
end
/-- May an address be masked so? -/
def maskOK (v : Int) (b : Nat → Int) (n : Int) : Bool := !(bitsF v b == 0) && (decide (0 ≤ n) && decide (n ≤ bitsF v b))
theorem mask_no {v : Int} {b : Nat → Int} {n : Int} (h : maskOK v b n = false) (w : World) :
    Calls Tryd.prog 15 #[adr v b, .int .i64 n] w fun e w' => e = .returned (.tuple #[adr 0 z0, .int .i64 1]) ∧ Below w.heap.size w w' := by
  unfold maskOK at h
  by_cases h1 : (bitsF v b == 0) = true
  · exact mask_no1 v b n h1 w
  · have h1' : (bitsF v b == 0) = false := by simpa using h1
    by_cases h2 : n < 0
    · exact mask_no2 v b n h1' h2 w
    · refine mask_no3 v b n h1' (by omega) ?_ w
      rw [h1'] at h
      simp at h
      omega
theorem mask_yes {v : Int} {b : Nat → Int} {n : Int} (h : maskOK v b n = true) (w : World) :
    Calls Tryd.prog 15 #[adr v b, .int .i64 n] w fun e w' => e = .returned (.tuple #[adr v (maskF n b), .int .i64 0]) ∧ Below w.heap.size w w' := by
  unfold maskOK at h
  simp only [Bool.and_eq_true, Bool.not_eq_true', decide_eq_true_eq] at h
  exact mask_y v b n h.1 h.2.1 h.2.2 w
/-- What Mask gives: V, the bytes, the error. -/
def maskRV (v : Int) (b : Nat → Int) (n : Int) : Int := if maskOK v b n then v else 0
def maskRB (v : Int) (b : Nat → Int) (n : Int) : Nat → Int := if maskOK v b n then maskF n b else z0
def maskRE (v : Int) (b : Nat → Int) (n : Int) : Int := if maskOK v b n then 0 else 1
theorem mask_any (v : Int) (b : Nat → Int) (n : Int) (w : World) :
    Calls Tryd.prog 15 #[adr v b, .int .i64 n] w fun e w' => e = .returned (.tuple #[adr (maskRV v b n) (maskRB v b n), .int .i64 (maskRE v b n)]) ∧ Below w.heap.size w w' := by
  unfold maskRV maskRB maskRE
  cases h : maskOK v b n
  · simpa using mask_no h w
  · simpa using mask_yes h w

/-- What Within tells. -/
def withinF (v : Int) (b : Nat → Int) (v' : Int) (b' : Nat → Int) (n : Int) : Bool :=
  maskOK v b n && (maskOK v' b' n && eqA v (maskF n b) v' (maskF n b'))
theorem withinF_eq (v : Int) (b : Nat → Int) (v' : Int) (b' : Nat → Int) (n : Int) :
    withinF v b v' b' n = ((maskRE v b n == 0) && ((maskRE v' b' n == 0) && eqA (maskRV v b n) (maskRB v b n) (maskRV v' b' n) (maskRB v' b' n))) := by
  unfold withinF maskRE maskRV maskRB
  cases maskOK v b n <;> cases maskOK v' b' n <;> simp
theorem within_any (v : Int) (b : Nat → Int) (v' : Int) (b' : Nat → Int) (n : Int) (w : World) :
    Calls Tryd.prog 16 #[adr v b, adr v' b', .int .i64 n] w fun e w' => e = .returned (.bool (withinF v b v' b' n)) ∧ Below w.heap.size w w' := by
  have eq25' := eq25
  have h0 := (HB.new w (ac v b) 25).alloc (adrO v' b')
  have h1 := HB.newAt (w := w.alloc (adrO v b)) (g := w.heap.size + 1) (by simp) (ac v' b') 25
  rw [withinF_eq]
  cases hE1 : (maskRE v b n == 0) <;> cases hE2 : (maskRE v' b' n == 0)
  all_goals
    go_enter Tryd.func16, Tryd.ntmps16
    go_wp2_with (refine ld25 rfl _ rfl _ rfl _ _ h0 ?_)
    refine (mask_any v b n _).mono ?_
    rintro e w1 ⟨rfl, hb1⟩
    have h1' := (h1.below hb1 (by simp)).alloc (adrO (maskRV v b n) (maskRB v b n))
    have hb := ((Below.rfl' _).al _).al _ |>.con hb1
    clear h0 h1 hb1
    go_wp2_with (first | (refine al25 rfl rfl ?_) | (refine st25 rfl _ _ rfl _ rfl _ _ _ _ rfl (HB.new _ _ _) ?_; rw [World.setRow_alloc_new]) | (refine ld25 rfl _ rfl _ rfl _ _ h1' ?_))
    refine (mask_any v' b' n _).mono ?_
    rintro e w2 ⟨rfl, hb2⟩
    have h7 := ((HB.new w1 (ac (maskRV v b n) (maskRB v b n)) 25).below hb2 (by simp)).alloc (adrO (maskRV v' b' n) (maskRB v' b' n))
    have h9 := HB.new w2 (ac (maskRV v' b' n) (maskRB v' b' n)) 25
    have hb' := (hb.al _).con hb2
    clear hb hb2 h1'
    go_wp2_with (first | (refine al25 rfl rfl ?_) | (refine st25 rfl _ _ rfl _ rfl _ _ _ _ rfl (HB.new _ _ _) ?_; rw [World.setRow_alloc_new]) | (refine ld25g rfl _ rfl _ rfl _ _ h7 ?_) | (refine ld25g rfl _ rfl _ rfl _ _ h9 ?_))
    go_ret
    exact ⟨ret_bool (by simp), hb'.al _⟩
end Go.Proofs.YtodbjjlgnnjmoaaDoor
