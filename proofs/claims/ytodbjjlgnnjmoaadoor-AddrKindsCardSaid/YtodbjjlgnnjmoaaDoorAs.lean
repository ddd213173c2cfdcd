/- AddrKinds: the walk. -/
import Derived.Test.YtodbjjlgnnjmoaaDoorAr
namespace Go.Proofs.YtodbjjlgnnjmoaaDoor
open Go.RowKit
theorem built23x : Tryd.prog.built 23 [(0, .int .u8 255)] = some (bc ffx) := by kernel_rfl
theorem built25s (b : Nat → Int) : Tryd.prog.built 25 [(0, .int .i64 6), (1, .agg (bc b))] = some (ac 6 b) := by kernel_rfl
theorem built25n : Tryd.prog.built 25 [(0, .int .i64 6)] = some (ac 6 z0) := by kernel_rfl
section
variable {ops : Array Oper} {rest : List Oper} {o : Oper} {a : Act} {w : World} {Q : Exit → Act → World → Prop}
theorem bu23x (hgd : o.guard = none) (ho : o.op = .build 23 #[(0, .const (.int .u8 255))]) (h : wpList Tryd.prog ops Q rest (a.put o.dst (.agg (bc ffx))) w) : wpList Tryd.prog ops Q (o :: rest) a w :=
  bu23 hgd _ ho _ (by simp only [List.map_toArray, List.map_cons, List.map_nil, Act.eval]; exact built23x) h
theorem bu25s (hgd : o.guard = none) (p : Operand) (ho : o.op = .build 25 #[(0, .const (.int .i64 6)), (1, p)]) (b : Nat → Int) (h0 : a.eval p = .agg (bc b))
    (h : wpList Tryd.prog ops Q rest (a.put o.dst (adr 6 b)) w) : wpList Tryd.prog ops Q (o :: rest) a w :=
  bu25 hgd _ ho 6 b (by simp only [List.map_toArray, List.map_cons, List.map_nil, h0]; exact built25s b) h
end
theorem wq_bu25n {ops : Array Oper} {rest : List Oper} {o : Oper} {a : Act} {C : World → Prop} {Q : Act → Prop} (hw : Region.wanted o (yielded ops a.tmps) = true) (ho : o.op = .build 25 #[(0, .const (.int .i64 6))])
    (h : wpQuiet Tryd.prog ops C Q rest (a.put o.dst (adr 6 z0))) : wpQuiet Tryd.prog ops C Q (o :: rest) a :=
  BigFrame.wpQuiet_want hw fun K hK => ⟨adr 6 z0, fun W hW => by
    unfold Oper.quietAt execOp
    simp only [ho]
    have : (Instr.build 25 #[(0, .int .i64 6)]).run Tryd.prog W = .ok (adr 6 z0) W := by kernel_rfl
    simp only [List.map_toArray, List.map_cons, List.map_nil, Act.eval, Sem.run_bind, this, Result.andThen_ok, Sem.run_pure]
    exact ⟨rfl, rfl⟩, hK _ h⟩
/-- The address, the two addresses made, and what the library's variables hold. -/
structure KS (w : World) (m v : Int) (b : Nat → Int) (g5 g6 : Nat) (W : World) : Prop where
  q0 : HB W w.heap.size (ac v b) 25
  q5 : HB W g5 (ac 6 ffx) 25
  q6 : HB W g6 (ac 6 oneB) 25
  he : Env m W
  hb : Below w.heap.size w W
theorem KS.keep {w : World} {m v : Int} {b : Nat → Int} {g5 g6 : Nat} {W W' : World} (h : KS w m v b g5 g6 W) (k : Below W.heap.size W W') : KS w m v b g5 g6 W' :=
  ⟨h.q0.below k h.q0.lt, h.q5.below k h.q5.lt, h.q6.below k h.q6.lt, h.he.b k, h.hb.con k⟩
theorem KS.drew {w : World} {m v : Int} {b : Nat → Int} {g5 g6 : Nat} {W : World} (h : KS w m v b g5 g6 W) : KS w m v b g5 g6 W.drew := ⟨h.q0, h.q5, h.q6, h.he.drew, h.hb.drew⟩
/-- One address, and what the library's variables hold. -/
structure PS (w : World) (m v : Int) (b : Nat → Int) (W : World) : Prop where
  q0 : HB W w.heap.size (ac v b) 25
  he : Env m W
  hb : Below w.heap.size w W
theorem PS.keep {w : World} {m v : Int} {b : Nat → Int} {W W' : World} (h : PS w m v b W) (k : Below W.heap.size W W') : PS w m v b W' :=
  ⟨h.q0.below k h.q0.lt, h.he.b k, h.hb.con k⟩
set_option maxRecDepth 100000 in
set_option maxHeartbeats 4000000 in
theorem kinds_no (v : Int) (b : Nat → Int) (hv : validF v b = false) (w : World) (m : Int) (he : Env m w) :
    Calls Tryd.prog 7 #[adr v b] w fun e w' => e = .returned (.bool true) ∧ Below w.heap.size w w' := by
  have hS : PS w m v b (w.alloc (adrO v b)) := ⟨HB.new _ _ _, he.b ((Below.rfl' w).al _), (Below.rfl' w).al _⟩
  have hk : kindF v b = 0 := by unfold kindF; rw [if_pos hv]
  go_enter Tryd.func7, Tryd.ntmps7
  go_wp2_with fail
  refine (alive_any _ m hS.he).mono ?_
  rintro e w1 ⟨rfl, hb1⟩
  replace hS := hS.keep hb1
  clear hb1 he
  go_wp2_with (first
    | (refine ld25 rfl _ rfl _ rfl _ _ hS.q0 ?_)
    | (go_at_call 17; refine (kind_any _ _ _).mono ?_; rintro e w' ⟨rfl, hb'⟩; replace hS := hS.keep hb'; clear hb')
    | (go_at_call 12; refine (valid_b _ _ _).mono ?_; rintro e w' ⟨rfl, hb'⟩; replace hS := hS.keep hb'; clear hb'))
  go_ret
  exact ⟨rfl, hS.hb⟩
set_option maxRecDepth 100000 in
set_option maxHeartbeats 4000000 in
theorem kinds_yes (v : Int) (b : Nat → Int) (hv : validF v b = true) (hK : KindsOK v b) (w : World) (m : Int) (he : Env m w) :
    Calls Tryd.prog 7 #[adr v b] w fun e w' => e = .returned (.bool true) ∧ Below w.heap.size w w' := by
  have hS : PS w m v b (w.alloc (adrO v b)) := ⟨HB.new _ _ _, he.b ((Below.rfl' w).al _), (Below.rfl' w).al _⟩
  have HK := Lib.hid hK
  clear hK
  go_enter Tryd.func7, Tryd.ntmps7
  go_wp2_with fail
  refine (alive_any _ m hS.he).mono ?_
  rintro e w1 ⟨rfl, hb1⟩
  replace hS := hS.keep hb1
  clear hb1 he
  go_wp2_with (first
    | (refine ld25 rfl _ rfl _ rfl _ _ hS.q0 ?_)
    | (go_at_call 17; refine (kind_any _ _ _).mono ?_; rintro e w' ⟨rfl, hb'⟩; replace hS := hS.keep hb'; clear hb')
    | (go_at_call 12; refine (valid_b _ _ _).mono ?_; rintro e w' ⟨rfl, hb'⟩; replace hS := hS.keep hb'; clear hb')
    | (refine bu23x rfl rfl ?_) | (refine bu23o rfl rfl ?_) | (refine bu25s rfl _ rfl _ rfl ?_) | (refine al25 rfl rfl ?_) | (refine st25 rfl _ _ rfl _ rfl _ _ _ _ rfl (HB.new _ _ _) ?_; rw [World.setRow_alloc_new]))
  have hK : KS w m v b w'.heap.size (w'.heap.size + 1) _ := ⟨(hS.q0.alloc (adrO 6 ffx)).alloc (adrO 6 oneB), (HB.new _ (ac 6 ffx) 25).alloc (adrO 6 oneB), HB.newAt (w := w'.alloc (adrO 6 ffx)) (by simp) (ac 6 oneB) 25, hS.he.b (((Below.rfl' _).al _).al _), (hS.hb.al _).al _⟩
  clear hS
  obtain ⟨k2, k3, k1, k4, klo, khi⟩ := HK.out
  clear HK
  cases W1 : withinF v b 4 (fourB 127 0 0 0) 8 <;> rw [W1] at k2 <;> (try simp only [Bool.false_or, Bool.true_or] at k2)
  all_goals
    refine region_quiet (C := KS w m v b w'.heap.size (w'.heap.size + 1)) (by kernel_rfl) (by kernel_rfl) hK.drew ?_
    repeat (first | (refine wq_ld25 (by rfl) _ rfl _ rfl _ _ (fun _ h => h.q0) ?_) | (refine wq_ld25 (by rfl) _ rfl _ rfl _ _ (fun _ h => h.q6) ?_) | (refine wq_ld25 (by rfl) _ rfl _ rfl _ _ (fun _ h => h.q5) ?_) | (refine wq_bu25n (by rfl) rfl ?_) | (refine wpQuiet_step (fun K hK => ?_); go_simp; first | (refine hK _ ?_; clear hK K) | (refine ⟨_, fun _ _ => rfl, hK _ ?_⟩; clear hK K) | (apply Exists.intro; refine ⟨fun W hW => ?_, hK _ ?_⟩; (first | (go_at_call 18; exact (lfour_any _ _ _ _ W).mono (fun e w' h => ⟨h.1, hW.keep h.2⟩)) | (go_at_call 16; exact (within_any _ _ _ _ _ W).mono (fun e w' h => ⟨h.1, hW.keep h.2⟩))); clear hK K)))
    refine wpQuiet_nil ?_
    intro w5 hK5
    clear hK W1
    have hK := hK5
    clear hK5
    go_wp2_with fail
    cases W3 : withinF v b 4 (fourB 224 0 0 0) 4 <;> rw [W3] at k3 <;> (try simp only [Bool.false_or, Bool.true_or] at k3)
    all_goals
      refine region_quiet (C := KS w m v b w'.heap.size (w'.heap.size + 1)) (by kernel_rfl) (by kernel_rfl) hK.drew ?_
      repeat (first | (refine wq_ld25 (by rfl) _ rfl _ rfl _ _ (fun _ h => h.q0) ?_) | (refine wq_ld25 (by rfl) _ rfl _ rfl _ _ (fun _ h => h.q6) ?_) | (refine wq_ld25 (by rfl) _ rfl _ rfl _ _ (fun _ h => h.q5) ?_) | (refine wq_bu25n (by rfl) rfl ?_) | (refine wpQuiet_step (fun K hK => ?_); go_simp; first | (refine hK _ ?_; clear hK K) | (refine ⟨_, fun _ _ => rfl, hK _ ?_⟩; clear hK K) | (apply Exists.intro; refine ⟨fun W hW => ?_, hK _ ?_⟩; (first | (go_at_call 18; exact (lfour_any _ _ _ _ W).mono (fun e w' h => ⟨h.1, hW.keep h.2⟩)) | (go_at_call 16; exact (within_any _ _ _ _ _ W).mono (fun e w' h => ⟨h.1, hW.keep h.2⟩))); clear hK K)))
      refine wpQuiet_nil ?_
      intro w5 hK5
      clear hK W3
      have hK := hK5
      clear hK5
      go_wp2_with fail
      cases W5 : withinF v b 4 (fourB 0 0 0 0) 32 <;> rw [W5] at k1 <;> (try simp only [Bool.false_or, Bool.true_or] at k1)
      all_goals
        refine region_quiet (C := KS w m v b w'.heap.size (w'.heap.size + 1)) (by kernel_rfl) (by kernel_rfl) hK.drew ?_
        repeat (first | (refine wq_ld25 (by rfl) _ rfl _ rfl _ _ (fun _ h => h.q0) ?_) | (refine wq_ld25 (by rfl) _ rfl _ rfl _ _ (fun _ h => h.q6) ?_) | (refine wq_ld25 (by rfl) _ rfl _ rfl _ _ (fun _ h => h.q5) ?_) | (refine wq_bu25n (by rfl) rfl ?_) | (refine wpQuiet_step (fun K hK => ?_); go_simp; first | (refine hK _ ?_; clear hK K) | (refine ⟨_, fun _ _ => rfl, hK _ ?_⟩; clear hK K) | (apply Exists.intro; refine ⟨fun W hW => ?_, hK _ ?_⟩; (first | (go_at_call 18; exact (lfour_any _ _ _ _ W).mono (fun e w' h => ⟨h.1, hW.keep h.2⟩)) | (go_at_call 16; exact (within_any _ _ _ _ _ W).mono (fun e w' h => ⟨h.1, hW.keep h.2⟩))); clear hK K)))
        refine wpQuiet_nil ?_
        intro w5 hK5
        clear hK W5
        have hK := hK5
        clear hK5
        go_wp2_with fail
        refine region_quiet (C := KS w m v b w'.heap.size (w'.heap.size + 1)) (by kernel_rfl) (by kernel_rfl) hK.drew ?_
        repeat (first | (refine wq_ld25 (by rfl) _ rfl _ rfl _ _ (fun _ h => h.q0) ?_) | (refine wq_ld25 (by rfl) _ rfl _ rfl _ _ (fun _ h => h.q6) ?_) | (refine wq_ld25 (by rfl) _ rfl _ rfl _ _ (fun _ h => h.q5) ?_) | (refine wq_bu25n (by rfl) rfl ?_) | (refine wpQuiet_step (fun K hK => ?_); go_simp; first | (refine hK _ ?_; clear hK K) | (refine ⟨_, fun _ _ => rfl, hK _ ?_⟩; clear hK K) | (apply Exists.intro; refine ⟨fun W hW => ?_, hK _ ?_⟩; (first | (go_at_call 18; exact (lfour_any _ _ _ _ W).mono (fun e w' h => ⟨h.1, hW.keep h.2⟩)) | (go_at_call 16; exact (within_any _ _ _ _ _ W).mono (fun e w' h => ⟨h.1, hW.keep h.2⟩))); clear hK K)))
        refine wpQuiet_nil ?_
        intro w5 hK5
        clear hK 
        have hK := hK5
        clear hK5
        go_wp2_with fail
        go_ret
        exact ⟨rfl, hK.hb⟩
theorem kinds_any (v : Int) (b : Nat → Int) (hb : ∀ i, 0 ≤ b i ∧ b i ≤ 255) (w : World) (m : Int) (he : Env m w) :
    Calls Tryd.prog 7 #[adr v b] w fun e w' => e = .returned (.bool true) ∧ Below w.heap.size w w' := by
  cases hv : validF v b with
  | false => exact kinds_no v b hv w m he
  | true => exact kinds_yes v b hv (kinds_ok v b hb hv) w m he
end Go.Proofs.YtodbjjlgnnjmoaaDoor
