/- The law's function alive returns true in every world that holds the library's tables. -/
import Derived.Test.YtodbjjlgnnjmoaaDoorAl
import Derived.Deep.QuietTactic
import Derived.BigQuiet
namespace Go.Proofs.YtodbjjlgnnjmoaaDoor
open Go.RowKit
theorem region_quiet {P : Program} {C : World → Prop} {id : Nat} {Q : Exit → Act → World → Prop} {a : Act} {w : World} {l : List Oper} (hm : P.follows .mixedOrders = true) (hB : Region.lexB .any l.toArray = true) (hC : C w.drew)
    (h : wpQuiet P l.toArray C (fun a' => ∀ w', C w' → Q .normal a' w') l a) : (Code.region id l.toArray true).wp P Q a w :=
  wp_region_quiet (C := C) hm hB hC (by simpa using h)
theorem wq_ld25 {ops : Array Oper} {rest : List Oper} {o : Oper} {a : Act} {C : World → Prop} {Q : Act → Prop} (hw : Region.wanted o (yielded ops a.tmps) = true) (x : Operand) (ho : o.op = .load 25 x) (g : Nat)
    (hx : a.eval x = .pointer (some ⟨g, 0, none⟩)) (v : Int) (b : Nat → Int) (hC : ∀ W, C W → HB W g (ac v b) 25)
    (h : wpQuiet Tryd.prog ops C Q rest (a.put o.dst (adr v b))) : wpQuiet Tryd.prog ops C Q (o :: rest) a :=
  BigFrame.wpQuiet_want hw fun K hK => ⟨adr v b, fun W hW => by
    unfold Oper.quietAt execOp
    simp only [ho, hx, Instr.loadAt, Instr.sureAddr, Sem.run_bind, Sem.run_pure, Result.andThen_ok, run_loadVar_row W g 25 25 (ac v b) (0, 0) _ (hC W hW) Tryd.underlying25 rfl info25]
    exact ⟨rfl, rfl⟩, hK _ h⟩
/-- What holds while the law looks at its addresses. -/
structure AS (w : World) (m : Int) (g1 g2 g7 : Nat) (W : World) : Prop where
  q1 : HB W g1 (ac 4 (pB l1)) 25
  q2 : HB W g2 (ac 6 (pB l2)) 25
  q7 : HB W g7 (ac 4 (maskRB 4 (pB l1) 25)) 25
  he : Env m W
  hb : Below w.heap.size w W
theorem AS.drew {w : World} {m : Int} {g1 g2 g7 : Nat} {W : World} (h : AS w m g1 g2 g7 W) : AS w m g1 g2 g7 W.drew := ⟨h.q1, h.q2, h.q7, h.he.drew, h.hb.drew⟩
theorem AS.keep {w : World} {m : Int} {g1 g2 g7 : Nat} {W W' : World} (h : AS w m g1 g2 g7 W) (k : Below W.heap.size W W') : AS w m g1 g2 g7 W' :=
  ⟨h.q1.below k h.q1.lt, h.q2.below k h.q2.lt, h.q7.below k h.q7.lt, h.he.b k, h.hb.con k⟩
theorem valid_b (v : Int) (b : Nat → Int) (w : World) : Calls Tryd.prog 12 #[adr v b] w fun e w' => e = .returned (.bool (validF v b)) ∧ Below w.heap.size w w' :=
  (valid_any v b w).mono fun _ _ h => ⟨h.1, by rw [← h.2]; exact ((Below.rfl' w).al _).al _⟩
theorem byte6_le {x : List Nat} (h : ∀ n ∈ x, n < 65536) (i : Nat) : 0 ≤ byte6 x i ∧ byte6 x i ≤ 255 := by
  have hg : x.getD (i / 2) 0 < 65536 := by
    rw [List.getD_eq_getElem?_getD]
    cases hx : x[i / 2]? with
    | none => simp
    | some n => exact h n (List.mem_of_getElem? hx)
  unfold byte6
  split <;> omega
theorem pB_le (l : List UInt8) (i : Nat) : 0 ≤ pB l i ∧ pB l i ≤ 255 := by
  unfold pB
  split
  · split
    · unfold valSix backB
      split
      · exact byte6_le (fun n h => valG_lt h) i
      · split
        · exact byte6_le (fun n h => valG_lt h) _
        · omega
    · unfold valFour
      split
      · have := part4_le (p := (pcs 46 l).getD i [])
        omega
      · omega
  · simp
set_option maxRecDepth 100000 in
set_option maxHeartbeats 1000000 in
theorem alive_any (w : World) (m : Int) (he : Env m w) : Calls Tryd.prog 8 #[] w fun e w' => e = .returned (.bool true) ∧ Below w.heap.size w w' := by
  have H1 := Lib.hid (parse_1 w m he)
  have HE := Lib.hid he
  clear he
  go_enter Tryd.func8, Tryd.ntmps8
  go_wp2_with fail
  refine H1.out.mono ?_
  rintro e w1 ⟨rfl, hb1⟩
  have HE1 := Lib.hid (HE.out.b hb1)
  have q1 := HB.new w1 (ac 4 (pB l1)) 25
  have hb := hb1.al (adrO 4 (pB l1))
  clear H1 hb1
  go_wp2_with (first | (refine al25 rfl rfl ?_) | (refine st25 rfl _ _ rfl _ rfl _ _ _ _ rfl (HB.new _ _ _) ?_; rw [World.setRow_alloc_new]))
  refine (parse_2 _ m (HE1.out.b ((Below.rfl' _).al _))).mono ?_
  rintro e w2 ⟨rfl, hb2⟩
  have q1 := (q1.below hb2 q1.lt).alloc (adrO 6 (pB l2))
  have q2 := HB.new w2 (ac 6 (pB l2)) 25
  have HE2 := Lib.hid (HE1.out.b (((Below.rfl' w1).al _).con hb2))
  have hb := (hb.con hb2).al (adrO 6 (pB l2))
  clear hb2 HE1
  go_wp2_with (first | (refine al25 rfl rfl ?_) | (refine st25 rfl _ _ rfl _ rfl _ _ _ _ rfl (HB.new _ _ _) ?_; rw [World.setRow_alloc_new]))
  refine (parse_3 _ m (HE2.out.b ((Below.rfl' _).al _))).mono ?_
  rintro e w3 ⟨rfl, hb3⟩
  have q1 := (q1.below hb3 q1.lt).alloc (adrO (pV l3) (pB l3))
  have q2 := (q2.below hb3 q2.lt).alloc (adrO (pV l3) (pB l3))
  have HE3 := Lib.hid (HE2.out.b (((Below.rfl' w2).al _).con hb3))
  have hb := (hb.con hb3).al (adrO (pV l3) (pB l3))
  clear hb3 HE2
  go_wp2_with (first | (refine al25 rfl rfl ?_) | (refine st25 rfl _ _ rfl _ rfl _ _ _ _ rfl (HB.new _ _ _) ?_; rw [World.setRow_alloc_new]) | (refine ld25 rfl _ rfl _ rfl _ _ q1 ?_))
  refine (mask_any 4 (pB l1) 25 _).mono ?_
  rw [al_m.1, al_m.2]
  rintro e w4 ⟨rfl, hb4⟩
  have q1 := (q1.below hb4 q1.lt).alloc (adrO 4 (maskRB 4 (pB l1) 25))
  have q2 := (q2.below hb4 q2.lt).alloc (adrO 4 (maskRB 4 (pB l1) 25))
  have q7 := HB.new w4 (ac 4 (maskRB 4 (pB l1) 25)) 25
  have HE4 := Lib.hid (HE3.out.b (((Below.rfl' w3).al _).con hb4))
  have hb := (hb.con hb4).al (adrO 4 (maskRB 4 (pB l1) 25))
  clear hb4 HE3
  go_wp2_with (first | (refine al25 rfl rfl ?_) | (refine st25 rfl _ _ rfl _ rfl _ _ _ _ rfl (HB.new _ _ _) ?_; rw [World.setRow_alloc_new]))
  have hS : AS w m w1.heap.size w2.heap.size w4.heap.size (w4.alloc (adrO 4 (maskRB 4 (pB l1) 25))) := ⟨q1, q2, q7, HE4.out.b ((Below.rfl' _).al _), hb⟩
  have ne25' := ne25
  have e1 := al_1
  have e2 := al_2
  clear q1 q2 q7 HE4 hb
  refine region_quiet (C := AS w m w1.heap.size w2.heap.size w4.heap.size) (by kernel_rfl) (by kernel_rfl) hS.drew ?_
  repeat (first
    | (refine wq_ld25 (by rfl) _ rfl _ rfl _ _ (fun _ h => h.q1) ?_)
    | (refine wq_ld25 (by rfl) _ rfl _ rfl _ _ (fun _ h => h.q7) ?_)
    | (refine wpQuiet_step (fun K hK => ?_); go_simp; first | (refine hK _ ?_; clear hK K) | (refine ⟨_, fun _ _ => rfl, hK _ ?_⟩; clear hK K) | (refine ⟨_, fun W hW => (lfour_any _ _ _ _ W).mono (fun e w' h => ⟨h.1, hW.keep h.2⟩), hK _ ?_⟩; clear hK K)))
  refine wpQuiet_nil ?_
  intro w5 hS5
  clear hS e1 e2
  have hS := hS5
  clear hS5
  have e3 := al_3
  have e4 := al_4
  have e5 := al_5
  have e6 := al_6
  have e7 := al_7
  have e8 := al_8
  have e9 := al_9
  go_wp2_with (first
    | (refine ld25 rfl _ rfl _ rfl _ _ hS.q1 ?_) | (refine ld25g rfl _ rfl _ rfl _ _ hS.q1 ?_) | (refine ld25g rfl _ rfl _ rfl _ _ hS.q2 ?_) | (refine ld25g rfl _ rfl _ rfl _ _ hS.q7 ?_)
    | (go_at_call 12; refine (valid_b _ _ _).mono ?_; rintro e w' ⟨rfl, hb'⟩; replace hS := hS.keep hb'; clear hb')
    | (go_at_call 17; refine (kind_any _ _ _).mono ?_; rintro e w' ⟨rfl, hb'⟩; replace hS := hS.keep hb'; clear hb')
    | (go_at_call 18; refine (lfour_any _ _ _ _ _).mono ?_; rintro e w' ⟨rfl, hb'⟩; replace hS := hS.keep hb'; clear hb')
    | (go_at_call 11; refine (print_any 6 (pB l2) (pB_le l2) _ m hS.he).mono ?_; rintro e w' ⟨rfl, hb'⟩; replace hS := hS.keep hb'; clear hb')
    | (go_at_call 14; refine (less_any _ _ _ _ _).mono ?_; rintro e w' ⟨rfl, hb'⟩; replace hS := hS.keep hb'; clear hb')
    | (go_at_call 16; refine (within_any _ _ _ _ _ _).mono ?_; rintro e w' ⟨rfl, hb'⟩; replace hS := hS.keep hb'; clear hb'))
  go_ret
  exact ⟨rfl, hS.hb⟩
end Go.Proofs.YtodbjjlgnnjmoaaDoor
