/- AddrNets: the walk. -/
import Derived.Test.YtodbjjlgnnjmoaaDoorAt
namespace Go.Proofs.YtodbjjlgnnjmoaaDoor
open Go.RowKit
/-- Rows that are there, and what the library's variables hold. -/
structure NS (w : World) (m : Int) (l : List (Nat × Int × (Nat → Int))) (W : World) : Prop where
  rows : ∀ r ∈ l, HB W r.1 (ac r.2.1 r.2.2) 25
  he : Env m W
  hb : Below w.heap.size w W
section
variable {w : World} {m : Int} {l : List (Nat × Int × (Nat → Int))} {W W' : World}
theorem NS.keep (h : NS w m l W) (k : Below W.heap.size W W') : NS w m l W' := ⟨fun r hr => (h.rows r hr).below k (h.rows r hr).lt, h.he.b k, h.hb.con k⟩
theorem NS.add (h : NS w m l W) (v : Int) (b : Nat → Int) : NS w m ((W.heap.size, v, b) :: l) (W.alloc (adrO v b)) :=
  ⟨fun r hr => by
    rcases List.mem_cons.1 hr with rfl | hr
    · exact HB.new _ _ _
    · exact (h.rows r hr).alloc _, h.he.b ((Below.rfl' W).al _), h.hb.al _⟩
theorem NS.at0 {g : Nat} {v : Int} {b : Nat → Int} (h : NS w m ((g, v, b) :: l) W) : HB W g (ac v b) 25 := h.rows (g, v, b) (by simp)
theorem NS.at1 {r0 : Nat × Int × (Nat → Int)} {g : Nat} {v : Int} {b : Nat → Int} (h : NS w m (r0 :: (g, v, b) :: l) W) : HB W g (ac v b) 25 := h.rows (g, v, b) (by simp)
theorem NS.at2 {r0 r1 : Nat × Int × (Nat → Int)} {g : Nat} {v : Int} {b : Nat → Int} (h : NS w m (r0 :: r1 :: (g, v, b) :: l) W) : HB W g (ac v b) 25 := h.rows (g, v, b) (by simp)
theorem NS.at3 {r0 r1 r2 : Nat × Int × (Nat → Int)} {g : Nat} {v : Int} {b : Nat → Int} (h : NS w m (r0 :: r1 :: r2 :: (g, v, b) :: l) W) : HB W g (ac v b) 25 := h.rows (g, v, b) (by simp)
theorem NS.at4 {r0 r1 r2 r3 : Nat × Int × (Nat → Int)} {g : Nat} {v : Int} {b : Nat → Int} (h : NS w m (r0 :: r1 :: r2 :: r3 :: (g, v, b) :: l) W) : HB W g (ac v b) 25 := h.rows (g, v, b) (by simp)
theorem NS.at5 {r0 r1 r2 r3 r4 : Nat × Int × (Nat → Int)} {g : Nat} {v : Int} {b : Nat → Int} (h : NS w m (r0 :: r1 :: r2 :: r3 :: r4 :: (g, v, b) :: l) W) : HB W g (ac v b) 25 := h.rows (g, v, b) (by simp)
end
theorem NS.start {w : World} {m : Int} (he : Env m w) (v v' : Int) (b b' : Nat → Int) : NS w m [(w.heap.size + 1, v', b'), (w.heap.size, v, b)] ((w.alloc (adrO v b)).alloc (adrO v' b')) :=
  ⟨fun r hr => by
    rcases List.mem_cons.1 hr with rfl | hr
    · exact HB.newAt (w := w.alloc (adrO v b)) (by simp) (ac v' b') 25
    · obtain rfl : r = (w.heap.size, v, b) := by simpa using hr
      exact (HB.new w (ac v b) 25).alloc _, he.b (((Below.rfl' w).al _).al _), ((Below.rfl' w).al _).al _⟩
theorem bu25zg {ops : Array Oper} {rest : List Oper} {o : Oper} {a : Act} {w : World} {Q : Exit → Act → World → Prop} (hw : Region.wanted o (yielded ops a.tmps) = true) (ho : o.op = .build 25 #[])
    (h : wpList Tryd.prog ops Q rest (a.put o.dst (adr 0 z0)) w) : wpList Tryd.prog ops Q (o :: rest) a w :=
  wpList_step fun K hK => by
    rw [if_pos hw]
    have : (Instr.build 25 #[]).run Tryd.prog w = .ok (adr 0 z0) w := by kernel_rfl
    unfold Oper.wp execOp
    simp only [ho, List.map_toArray, List.map_nil, Sem.run_bind, this, Result.andThen_ok, Sem.run_pure]
    exact hK _ _ h
set_option maxRecDepth 100000 in
set_option maxHeartbeats 4000000 in
/-- The mask of the first is refused. -/
theorem nets_no (v v' : Int) (b b' : Nat → Int) (n k : Int) (h1 : maskOK v b n = false) (w : World) (m : Int) (he : Env m w) :
    Calls Tryd.prog 6 #[adr v b, adr v' b', .int .i64 n, .int .i64 k] w fun e w' => e = .returned (.bool true) ∧ Below w.heap.size w w' := by
  have hS := NS.start he v v' b b'
  have C1 := Lib.hid (fun W => mask_no h1 W)
  have I1 : withinF v b v' b' n = false := by unfold withinF; rw [h1]; rfl
  have I2 : withinF v' b' v b n = false := by rw [withinF_comm]; exact I1
  have Z : eqA 0 z0 0 z0 = true := by decide +kernel
  have E25 := eq25
  have mk1 : Hid True := trivial
  have mk2 : Hid True := trivial
  clear h1
  go_enter Tryd.func6, Tryd.ntmps6
  go_wp2_with fail
  refine (alive_any _ m hS.he).mono ?_
  rintro e w1 ⟨rfl, hb1⟩
  replace hS := hS.keep hb1
  clear hb1 he
  go_wp2_with (first
    | (refine ld25 rfl _ rfl _ rfl _ _ hS.at0 ?_) | (refine ld25 rfl _ rfl _ rfl _ _ hS.at1 ?_) | (refine ld25 rfl _ rfl _ rfl _ _ hS.at2 ?_) | (refine ld25 rfl _ rfl _ rfl _ _ hS.at3 ?_)
    | (refine ld25g rfl _ rfl _ rfl _ _ hS.at0 ?_) | (refine ld25g rfl _ rfl _ rfl _ _ hS.at1 ?_) | (refine ld25g rfl _ rfl _ rfl _ _ hS.at2 ?_) | (refine ld25g rfl _ rfl _ rfl _ _ hS.at3 ?_)
    | (go_at_call 15; clear mk1; refine (C1.out _).mono ?_; rintro e w' ⟨rfl, hb'⟩; replace hS := (hS.keep hb').add 0 z0; clear hb')
    | (go_at_call 15; clear mk2; refine (mask_any v' b' n _).mono ?_; rintro e w' ⟨rfl, hb'⟩; replace hS := (hS.keep hb').add (maskRV v' b' n) (maskRB v' b' n); clear hb')
    | (go_at_call 16; refine (within_any _ _ _ _ _ _).mono ?_; rintro e w' ⟨rfl, hb'⟩; replace hS := hS.keep hb'; clear hb')
    | (refine al25 rfl rfl ?_) | (refine st25 rfl _ _ rfl _ rfl _ _ _ _ rfl (HB.new _ _ _) ?_; rw [World.setRow_alloc_new]) | (refine bu25zg rfl rfl ?_))
  go_ret
  exact ⟨rfl, hS.hb⟩
end Go.Proofs.YtodbjjlgnnjmoaaDoor
