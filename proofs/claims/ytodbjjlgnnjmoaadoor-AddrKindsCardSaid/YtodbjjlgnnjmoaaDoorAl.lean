/- The contracts of the law's function four, and of Parse at its three fixed texts. -/
import Derived.Test.YtodbjjlgnnjmoaaDoorAk
import Derived.Deep.RegionHeld3
namespace Go.Proofs.YtodbjjlgnnjmoaaDoor
open Go.RowKit
/-- Four bytes in front. -/
def fourB (x y z u : Int) : Nat → Int
  | 0 => x
  | 1 => y
  | 2 => z
  | 3 => u
  | _ => 0
theorem built23q (x y z u : Int) : Tryd.prog.built 23 [(0, .int .u8 x), (1, .int .u8 y), (2, .int .u8 z), (3, .int .u8 u)] = some (bc (fourB x y z u)) := by kernel_rfl
theorem built25q (b : Nat → Int) : Tryd.prog.built 25 [(0, .int .i64 4), (1, .agg (bc b))] = some (ac 4 b) := by kernel_rfl
section
variable {ops : Array Oper} {rest : List Oper} {o : Oper} {a : Act} {w : World} {Q : Exit → Act → World → Prop}
theorem bu23q (hgd : o.guard = none) (p0 p1 p2 p3 : Operand) (ho : o.op = .build 23 #[(0, p0), (1, p1), (2, p2), (3, p3)]) (x y z u : Int) (h0 : a.eval p0 = .int .u8 x) (h1 : a.eval p1 = .int .u8 y) (h2 : a.eval p2 = .int .u8 z)
    (h3 : a.eval p3 = .int .u8 u) (h : wpList Tryd.prog ops Q rest (a.put o.dst (.agg (bc (fourB x y z u)))) w) : wpList Tryd.prog ops Q (o :: rest) a w :=
  bu23 hgd _ ho _ (by simp only [List.map_toArray, List.map_cons, List.map_nil, h0, h1, h2, h3]; exact built23q x y z u) h
theorem bu25q (hgd : o.guard = none) (p : Operand) (ho : o.op = .build 25 #[(0, .const (.int .i64 4)), (1, p)]) (b : Nat → Int) (h0 : a.eval p = .agg (bc b))
    (h : wpList Tryd.prog ops Q rest (a.put o.dst (adr 4 b)) w) : wpList Tryd.prog ops Q (o :: rest) a w :=
  bu25 hgd _ ho 4 b (by simp only [List.map_toArray, List.map_cons, List.map_nil, h0]; exact built25q b) h
theorem results_cell1 {fn : Func} {p : Tmp} {ty : TypeId} (h : fn.results = #[.cell p ty]) (tmps : Array Value) (P : Program) (w : World) :
    (results fn tmps).run P w = ((asAddr (tmps.getD p undef)).run P w).andThen fun a w₁ => (loadVar ty a).run P w₁ := by
  simp only [results, h]
  simp [Sem.run_bind, Result.andThen]
theorem ret25o {fn : Func} {R : Ending → World → Prop} {a : Act} {w : World} {p : Tmp} {g : Nat} {v : Int} {b : Nat → Int} (hf : fn.results = #[.cell p 25]) (hd : a.defers = [])
    (hp : a.tmps.getD p undef = .pointer (some ⟨g, 0, none⟩)) (hg : HB w g (ac v b) 25) (hR : R (.returned (adr v b)) w) : bodyPost Tryd.prog fn R .ret a w := by
  refine bodyPost_ret (v := adr v b) ?_ hd hR
  rw [results_cell1 hf, hp]
  simp only [asAddr, Sem.run_pure, Result.andThen_ok, run_loadVar_row w g 25 25 (ac v b) (0, 0) _ hg Tryd.underlying25 rfl info25]
end
set_option maxRecDepth 100000 in
theorem lfour_any (x y z u : Int) (w : World) :
    Calls Tryd.prog 18 #[.int .u8 x, .int .u8 y, .int .u8 z, .int .u8 u] w fun e w' => e = .returned (adr 4 (fourB x y z u)) ∧ Below w.heap.size w w' := by
  go_enter Tryd.func18, Tryd.ntmps18
  go_wp2_with (first | (refine al25 rfl rfl ?_) | (refine st25 rfl _ _ rfl _ rfl _ _ _ _ rfl (HB.new _ _ _) ?_; rw [World.setRow_alloc_new]) | (refine bu23q rfl _ _ _ _ rfl _ _ _ _ rfl rfl rfl rfl ?_) | (refine bu25q rfl _ rfl _ rfl ?_))
  exact ret25o rfl rfl rfl (HB.new w (ac 4 (fourB x y z u)) 25) ⟨rfl, (Below.rfl' _).al _⟩
def l1 : List UInt8 := [49, 57, 50, 46, 48, 46, 50, 46, 49, 50, 57]
def l2 : List UInt8 := [50, 48, 48, 49, 58, 100, 98, 56, 58, 48, 58, 48, 58, 49, 58, 48, 58, 48, 58, 49]
def l3 : List UInt8 := [49, 58, 58, 50, 58, 58, 51]
theorem al_a : pV l1 = 4 ∧ pE l1 = 0 := by decide +kernel
theorem al_b : pV l2 = 6 ∧ pE l2 = 0 := by decide +kernel
theorem al_c : pE l3 = 30 := by decide +kernel
theorem al_m : maskRV 4 (pB l1) 25 = 4 ∧ maskRE 4 (pB l1) 25 = 0 := by decide +kernel
theorem al_1 : eqA 4 (pB l1) 4 (fourB 192 0 2 129) = true := by decide +kernel
theorem al_2 : eqA 4 (maskRB 4 (pB l1) 25) 4 (fourB 192 0 2 128) = true := by decide +kernel
theorem al_3 : validF 4 (pB l1) = true := by decide +kernel
theorem al_4 : kindF 4 (pB l1) = 5 := by decide +kernel
theorem al_5 : kindF 4 (fourB 127 1 1 1) = 2 := by decide +kernel
theorem al_6 : printT 6 (pB l2) = [50, 48, 48, 49, 58, 100, 98, 56, 58, 58, 49, 58, 48, 58, 48, 58, 49] := by decide +kernel
theorem al_7 : lessF 4 (pB l1) 6 (pB l2) = true := by decide +kernel
theorem al_8 : withinF 4 (pB l1) 4 (maskRB 4 (pB l1) 25) 25 = true := by decide +kernel
theorem al_9 : withinF 4 (pB l1) 4 (maskRB 4 (pB l1) 25) 33 = false := by decide +kernel
theorem parse_1 (w : World) (m : Int) (he : Env m w) : Calls Tryd.prog 9 #[.string ⟨#[49, 57, 50, 46, 48, 46, 50, 46, 49, 50, 57]⟩] w fun e w' => e = .returned (.tuple #[adr 4 (pB l1), .int .i64 0]) ∧ Below w.heap.size w w' := by
  have h := parse_any ⟨#[49, 57, 50, 46, 48, 46, 50, 46, 49, 50, 57]⟩ w m (by decide) he.hm
  unfold ParseR at h
  have e : (⟨#[49, 57, 50, 46, 48, 46, 50, 46, 49, 50, 57]⟩ : ByteArray).data.toList = l1 := rfl
  rwa [e, al_a.1, al_a.2] at h
theorem parse_2 (w : World) (m : Int) (he : Env m w) : Calls Tryd.prog 9 #[.string ⟨#[50, 48, 48, 49, 58, 100, 98, 56, 58, 48, 58, 48, 58, 49, 58, 48, 58, 48, 58, 49]⟩] w fun e w' => e = .returned (.tuple #[adr 6 (pB l2), .int .i64 0]) ∧ Below w.heap.size w w' := by
  have h := parse_any ⟨#[50, 48, 48, 49, 58, 100, 98, 56, 58, 48, 58, 48, 58, 49, 58, 48, 58, 48, 58, 49]⟩ w m (by decide) he.hm
  unfold ParseR at h
  have e : (⟨#[50, 48, 48, 49, 58, 100, 98, 56, 58, 48, 58, 48, 58, 49, 58, 48, 58, 48, 58, 49]⟩ : ByteArray).data.toList = l2 := rfl
  rwa [e, al_b.1, al_b.2] at h
theorem parse_3 (w : World) (m : Int) (he : Env m w) : Calls Tryd.prog 9 #[.string ⟨#[49, 58, 58, 50, 58, 58, 51]⟩] w fun e w' => e = .returned (.tuple #[adr (pV l3) (pB l3), .int .i64 30]) ∧ Below w.heap.size w w' := by
  have h := parse_any ⟨#[49, 58, 58, 50, 58, 58, 51]⟩ w m (by decide) he.hm
  unfold ParseR at h
  have e : (⟨#[49, 58, 58, 50, 58, 58, 51]⟩ : ByteArray).data.toList = l3 := rfl
  rwa [e, al_c] at h
end Go.Proofs.YtodbjjlgnnjmoaaDoor
