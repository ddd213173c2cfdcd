/- Addresses in memory: the cells of an address, and contracts of bits, Valid. -/
import Derived.Test.YtodbjjlgnnjmoaaDoorProg
import Derived.WalkKit
import Derived.WalkLawsBesides
import Derived.WalkSpells
import Derived.Below
import Derived.Lib.Hide
import Derived.RegionTactic
import Derived.ChangeAlike
import Derived.Laws.Rows
import Derived.Laws.Tables
import Derived.Laws.CopyOwn
import Derived.Laws.ResultCell
import Derived.Laws.StructEq
import Derived.Deep.MidRow
import Derived.Great.BuildSlice
namespace Go.Proofs.YtodbjjlgnnjmoaaDoor
open Go.RowKit
/-- The cells of an address: V and its sixteen bytes. -/
def ac (v : Int) (b : Nat → Int) : Array Value := #[.int .i64 v, .int .u8 (b 0), .int .u8 (b 1), .int .u8 (b 2), .int .u8 (b 3), .int .u8 (b 4), .int .u8 (b 5), .int .u8 (b 6), .int .u8 (b 7), .int .u8 (b 8), .int .u8 (b 9), .int .u8 (b 10), .int .u8 (b 11), .int .u8 (b 12), .int .u8 (b 13), .int .u8 (b 14), .int .u8 (b 15)]
abbrev adr (v : Int) (b : Nat → Int) : Value := .agg (ac v b)
abbrev adrO (v : Int) (b : Nat → Int) : Obj := .cells (ac v b) 25
theorem ac_size (v : Int) (b : Nat → Int) : (ac v b).size = 17 := rfl
theorem ac_v (v : Int) (b : Nat → Int) : (ac v b)[0]? = some (.int .i64 v) := rfl
theorem ac_b (v : Int) (b : Nat → Int) (k : Nat) (hk : k < 16) : (ac v b)[1 + k]? = some (.int .u8 (b k)) := by
  match k, hk with
  | 0, _ => rfl
  | 1, _ => rfl
  | 2, _ => rfl
  | 3, _ => rfl
  | 4, _ => rfl
  | 5, _ => rfl
  | 6, _ => rfl
  | 7, _ => rfl
  | 8, _ => rfl
  | 9, _ => rfl
  | 10, _ => rfl
  | 11, _ => rfl
  | 12, _ => rfl
  | 13, _ => rfl
  | 14, _ => rfl
  | 15, _ => rfl
  | n + 16, h => exact absurd h (by omega)
/-- Block g is this row, not frozen. -/
def HB (w : World) (g : Nat) (cs : Array Value) (t : TypeId) : Prop := w.heap[g]? = some (.cells cs t)
theorem HB.new (w : World) (cs : Array Value) (t : TypeId) : HB (w.alloc (.cells cs t)) w.heap.size cs t := heap_alloc_new _ _
theorem HB.lt {w : World} {g : Nat} {cs : Array Value} {t : TypeId} (h : HB w g cs t) : g < w.heap.size := by
  unfold HB at h
  exact (Array.getElem?_eq_some_iff.1 h).1
theorem HB.alloc {w : World} {g : Nat} {cs : Array Value} {t : TypeId} (h : HB w g cs t) (o : Obj) : HB (w.alloc o) g cs t :=
  (Below.heap_alloc w o g h.lt).trans h
theorem HB.drew {w : World} {g : Nat} {cs : Array Value} {t : TypeId} (h : HB w g cs t) : HB w.drew g cs t := h
theorem HB.below {w w' : World} {B g : Nat} {cs : Array Value} {t : TypeId} (h : HB w g cs t) (hb : Below B w w') (hg : g < B) : HB w' g cs t := (hb.block g hg).trans h
theorem HB.cell {w : World} {g : Nat} {cs : Array Value} {t : TypeId} (h : HB w g cs t) (j : Nat) : w.cell? ⟨g, j, none⟩ = cs[j]? := cell_of_row w g j cs t (0, 0) h
theorem HB.free {w : World} {g : Nat} {cs : Array Value} {t : TypeId} (h : HB w g cs t) (j : Nat) : w.frozen? ⟨g, j, none⟩ = false := frozen_of_row w g j cs t h
theorem HB.set {w : World} {g : Nat} {cs : Array Value} {t : TypeId} (h : HB w g cs t) (j : Nat) (v : Value) : HB (w.setCell ⟨g, j, none⟩ v) g (cs.setIfInBounds j v) t := heap_setCell_same w g j cs t v h
theorem HB.setOther {w : World} {g : Nat} {cs : Array Value} {t : TypeId} (h : HB w g cs t) {a : Addr} (ha : g ≠ a.block) (v : Value) : HB (w.setCell a v) g cs t := (heap_setCell_other w a g v ha).trans h
theorem HB.row {w : World} {g : Nat} {cs : Array Value} {t : TypeId} (h : HB w g cs t) (cs' : Array Value) : HB (w.setRow g cs') g cs' t := setRow_heap w g cs cs' t _ h
theorem HB.rowOther {w : World} {g k : Nat} {cs : Array Value} {t : TypeId} (h : HB w g cs t) (cs' : Array Value) (hk : g ≠ k) : HB (w.setRow k cs') g cs t := (setRow_other w k g cs' hk).trans h
theorem info25 : (Tryd.prog.info? 25).map (·.size) = some 17 := by kernel_rfl
theorem info23 : (Tryd.prog.info? 23).map (·.size) = some 16 := by kernel_rfl
/-- An address in a block: what its cells hold. -/
theorem HB.adrV {w : World} {g : Nat} {v : Int} {b : Nat → Int} {t : TypeId} (h : HB w g (ac v b) t) : w.cell? ⟨g, 0, none⟩ = some (.int .i64 v) := h.cell 0
theorem HB.adrB {w : World} {g : Nat} {v : Int} {b : Nat → Int} {t : TypeId} (h : HB w g (ac v b) t) (k : Nat) (hk : k < 16) : w.cell? ⟨g, 1 + k, none⟩ = some (.int .u8 (b k)) := (h.cell (1 + k)).trans (ac_b v b k hk)
section
variable {ops : Array Oper} {rest : List Oper} {o : Oper} {a : Act} {w : World} {Q : Exit → Act → World → Prop}
/-- An address is read whole. -/
theorem ld25 (hgd : o.guard = none) (x : Operand) (ho : o.op = .load 25 x) (g : Nat) (hx : a.eval x = .pointer (some ⟨g, 0, none⟩)) (v : Int) (b : Nat → Int) (hg : HB w g (ac v b) 25)
    (h : wpList Tryd.prog ops Q rest (a.put o.dst (adr v b)) w) : wpList Tryd.prog ops Q (o :: rest) a w :=
  wpList_load_row hgd 25 x ho g hx 25 (ac v b) (0, 0) _ hg Tryd.underlying25 rfl info25 h
theorem ac_one (v : Int) (b : Nat → Int) : (ac v b).all (·.oneCell') = true := by simp [ac, Value.oneCell']
/-- An address is stored whole. -/
theorem st25 (hgd : o.guard = none) (x y : Operand) (ho : o.op = .store 25 x y) (g : Nat) (hx : a.eval x = .pointer (some ⟨g, 0, none⟩)) (v v' : Int) (b b' : Nat → Int) (hy : a.eval y = adr v' b')
    (hg : HB w g (ac v b) 25)
    (h : wpList Tryd.prog ops Q rest (a.put o.dst undef) (w.setRow g (ac v' b'))) : wpList Tryd.prog ops Q (o :: rest) a w :=
  wpList_store_row hgd 25 x y ho g (ac v' b') hx hy 25 (ac v b) hg info25 rfl (ac_one _ _) h
end
/-- No address. -/
abbrev z0 : Nat → Int := fun _ => 0
theorem built0 : Tryd.prog.built 25 [] = some (ac 0 z0) := by kernel_rfl
section
variable {P : Program} (w : World)
theorem run_eqArr_list (d : Nat) (e : TypeId) (k k' : IntKind) (X Y : Array Value) (x y : Nat → Int) (he : P.underlying e = some (.int k')) (n : Nat)
    (hp : ∀ i, i < n → (part e X (i * 1)).run P w = .ok (.int k (x i)) w) (hq : ∀ i, i < n → (part e Y (i * 1)).run P w = .ok (.int k (y i)) w) :
    ∀ (l : List Nat), (∀ i ∈ l, i < n) →
      (do for i in l do
            if !(← Op.equalIn (d + 1) e (← part e X (i * 1)) (← part e Y (i * 1))) then return false
          pure true : Sem Bool).run P w = .ok (l.all fun i => x i == y i) w := by
  intro l
  induction l with
  | nil => intro _; simp
  | cons i l ih =>
    intro hl
    have h1 := hp i (hl i (by simp))
    have h2 := hq i (hl i (by simp))
    have h3 := ih (fun j hj => hl j (by simp [hj]))
    simp only [List.forIn_cons, Sem.run_bind, h1, h2, Result.andThen_ok, run_equalIn_int w d e k k' _ _ he, Sem.run_ite, List.all_cons]
    by_cases hxy : x i == y i
    · simp only [hxy, Bool.not_true, Bool.false_eq_true, if_false, Sem.run_pure, Result.andThen_ok, Bool.true_and]
      simpa only [Sem.run_bind] using h3
    · have hf : (x i == y i) = false := by simpa using hxy
      simp only [hf, Bool.not_false, if_true, Sem.run_pure, Result.andThen_ok, Bool.false_and]
theorem run_equalIn_arr (d : Nat) (t e : TypeId) (n : Nat) (k k' : IntKind) (X Y : Array Value) (x y : Nat → Int) (ht : P.underlying t = some (.array n e)) (he : P.underlying e = some (.int k'))
    (hs : (sizeOf e).run P w = .ok 1 w)
    (hp : ∀ i, i < n → (part e X (i * 1)).run P w = .ok (.int k (x i)) w) (hq : ∀ i, i < n → (part e Y (i * 1)).run P w = .ok (.int k (y i)) w) :
    (Op.equalIn (d + 1 + 1) t (.agg X) (.agg Y)).run P w = .ok ((List.range n).all fun i => x i == y i) w := by
  have h := run_eqArr_list (P := P) w d e k k' X Y x y he n hp hq (List.range n) (by simp)
  generalize hm : d + 1 = m at h ⊢
  simp only [Op.equalIn, Sem.run_bind, run_underlying ht, Result.andThen_ok, hs]
  rw [Std.Legacy.Range.forIn_eq_forIn_range']
  simp only [Std.Legacy.Range.size, Nat.sub_zero, Nat.add_sub_cancel, Nat.div_one]
  rw [← List.range_eq_range']
  simp only [Sem.run_bind] at h
  exact h
end
theorem guard25 : Tryd.prog.eqGuardType Tryd.prog.depth 25 = false := by kernel_rfl
theorem guard23 : Tryd.prog.eqGuardType Tryd.prog.depth 23 = false := by kernel_rfl
def bc (b : Nat → Int) : Array Value := #[.int .u8 (b 0), .int .u8 (b 1), .int .u8 (b 2), .int .u8 (b 3), .int .u8 (b 4), .int .u8 (b 5), .int .u8 (b 6), .int .u8 (b 7), .int .u8 (b 8), .int .u8 (b 9), .int .u8 (b 10), .int .u8 (b 11), .int .u8 (b 12), .int .u8 (b 13), .int .u8 (b 14), .int .u8 (b 15)]
theorem bc_b (b : Nat → Int) (k : Nat) (hk : k < 16) : (bc b)[k]? = some (.int .u8 (b k)) := by
  match k, hk with
  | 0, _ => rfl
  | 1, _ => rfl
  | 2, _ => rfl
  | 3, _ => rfl
  | 4, _ => rfl
  | 5, _ => rfl
  | 6, _ => rfl
  | 7, _ => rfl
  | 8, _ => rfl
  | 9, _ => rfl
  | 10, _ => rfl
  | 11, _ => rfl
  | 12, _ => rfl
  | 13, _ => rfl
  | 14, _ => rfl
  | 15, _ => rfl
  | n + 16, h => exact absurd h (by omega)
/-- Are two rows of sixteen bytes the same? -/
def eqB (b b' : Nat → Int) : Bool := (List.range 16).all fun i => b i == b' i
theorem run_part (b : Nat → Int) (w : World) (i : Nat) (hi : i < 16) : (part 5 (bc b) (i * 1)).run Tryd.prog w = .ok (.int .u8 (b i)) w := by
  have hb := bc_b b i hi
  have hb' : (bc b)[i * 1]? = some (.int .u8 (b i)) := by rwa [Nat.mul_one]
  unfold part
  have ha : (isAgg 5).run Tryd.prog w = .ok false w := by kernel_rfl
  simp only [Sem.run_bind, ha, Result.andThen_ok, Bool.false_eq_true, if_false, hb']
  rfl
theorem eqIn23 (d : Nat) (b b' : Nat → Int) (w : World) : (Op.equalIn (d + 1 + 1) 23 (.agg (bc b)) (.agg (bc b'))).run Tryd.prog w = .ok (eqB b b') w :=
  run_equalIn_arr w d 23 5 16 .u8 .u8 (bc b) (bc b') b b' Tryd.underlying23 Tryd.underlying5 (by kernel_rfl) (run_part b w) (run_part b' w)
theorem eq23 (b b' : Nat → Int) (w : World) : (binOp .eql 23 (.agg (bc b)) (.agg (bc b'))).run Tryd.prog w = .ok (.bool (eqB b b')) w := by
  rw [run_eql_struct]
  have h := eqIn23 9998 b b' w
  simp only [Nat.reduceAdd] at h
  rw [h]
  rfl
def eqA (v : Int) (b : Nat → Int) (v' : Int) (b' : Nat → Int) : Bool := v == v' && eqB b b'
theorem fields25 : (Tryd.prog.fieldsOf 25).toList = [{ name := "V", type := 3, offset := 0, embedded := false, tag := "", pkgPath := "", byteOffset := 0 }, { name := "B", type := 23, offset := 1, embedded := false, tag := "", pkgPath := "", byteOffset := 8 }] := by
  kernel_rfl
theorem part3 (v : Int) (b : Nat → Int) (w : World) : (part 3 (ac v b) 0).run Tryd.prog w = .ok (.int .i64 v) w := by
  unfold part
  have ha : (isAgg 3).run Tryd.prog w = .ok false w := by kernel_rfl
  simp only [Sem.run_bind, ha, Result.andThen_ok, Bool.false_eq_true, if_false, ac_v]
  rfl
theorem part23 (v : Int) (b : Nat → Int) (w : World) : (part 23 (ac v b) 1).run Tryd.prog w = .ok (.agg (bc b)) w := by
  unfold part
  have ha : (isAgg 23).run Tryd.prog w = .ok true w := by kernel_rfl
  have hs : (sizeOf 23).run Tryd.prog w = .ok 16 w := by kernel_rfl
  simp only [Sem.run_bind, ha, Result.andThen_ok, if_true, hs]
  rfl
theorem struct25 : Tryd.prog.underlying 25 = some (.struct (Tryd.prog.fieldsOf 25)) := by kernel_rfl
theorem stood25 : Tryd.prog.stoodInHeld 25 = false := by kernel_rfl
theorem eqIn25 (d : Nat) (v v' : Int) (b b' : Nat → Int) (w : World) : (Op.equalIn (d + 1 + 1 + 1) 25 (.agg (ac v b)) (.agg (ac v' b'))).run Tryd.prog w = .ok (eqA v b v' b') w := by
  rw [run_equalIn_agg (P := Tryd.prog) w (d + 1 + 1) 25 (ac v b) (ac v' b') struct25 stood25, fields25]
  simp only [Op.eqFields, Sem.run_bind, Sem.run_ite, part3, part23, run_equalIn_int (P := Tryd.prog) w (d + 1) 3 .i64 .i64 v v' Tryd.underlying3, eqIn23 d b b' w, Result.andThen_ok, ne_eq, String.reduceEq, not_false_eq_true, if_true, Sem.run_pure]
  unfold eqA
  cases v == v' <;> cases eqB b b' <;> rfl
theorem eq25 (v v' : Int) (b b' : Nat → Int) (w : World) : (binOp .eql 25 (.agg (ac v b)) (.agg (ac v' b'))).run Tryd.prog w = .ok (.bool (eqA v b v' b')) w := by
  rw [run_eql_struct]
  have h := eqIn25 9997 v v' b b' w
  simp only [Nat.reduceAdd] at h
  rw [h]
  rfl
theorem ne25 (v v' : Int) (b b' : Nat → Int) (w : World) : (binOp .neq 25 (.agg (ac v b)) (.agg (ac v' b'))).run Tryd.prog w = .ok (.bool (!eqA v b v' b')) w := by
  rw [run_neq_struct]
  have h := eqIn25 9997 v v' b b' w
  simp only [Nat.reduceAdd] at h
  rw [h]
  rfl
section
variable {ops : Array Oper} {rest : List Oper} {o : Oper} {a : Act} {w : World} {Q : Exit → Act → World → Prop}
/-- The sixteen bytes are read whole. -/
theorem ld23 (hgd : o.guard = none) (x : Operand) (ho : o.op = .load 23 x) (g : Nat) (hx : a.eval x = .pointer (some ⟨g, 1, none⟩)) (v : Int) (b : Nat → Int) (hg : HB w g (ac v b) 25)
    (h : wpList Tryd.prog ops Q rest (a.put o.dst (.agg (bc b))) w) : wpList Tryd.prog ops Q (o :: rest) a w := by
  refine wpList_load_mid hgd 23 x ho g 1 hx (bc b).toList _ (fun j u hj => ?_) Tryd.underlying23 rfl info23 h
  have hlt : j < 16 := (List.getElem?_eq_some_iff.1 hj).1
  rw [hg.adrB j hlt, ← hj, Array.getElem?_toList, bc_b b j hlt]
theorem bu23 (hgd : o.guard = none) (parts : Array (Nat × Operand)) (ho : o.op = .build 23 parts) (b : Nat → Int) (hf : Tryd.prog.built 23 (parts.map fun (i, x) => (i, a.eval x)).toList = some (bc b))
    (h : wpList Tryd.prog ops Q rest (a.put o.dst (.agg (bc b))) w) : wpList Tryd.prog ops Q (o :: rest) a w :=
  wpList_buildTo hgd 23 parts ho _ rfl (bc b) hf h
theorem bu25 (hgd : o.guard = none) (parts : Array (Nat × Operand)) (ho : o.op = .build 25 parts) (v : Int) (b : Nat → Int) (hf : Tryd.prog.built 25 (parts.map fun (i, x) => (i, a.eval x)).toList = some (ac v b))
    (h : wpList Tryd.prog ops Q rest (a.put o.dst (adr v b)) w) : wpList Tryd.prog ops Q (o :: rest) a w :=
  wpList_buildTo hgd 25 parts ho _ rfl (ac v b) hf h
theorem HB.newAt {w : World} {g : Nat} (h : w.heap.size = g) (cs : Array Value) (t : TypeId) : HB (w.alloc (.cells cs t)) g cs t := by
  subst h
  exact HB.new _ _ _
theorem zero25 (w : World) : (zeroValue 25).run Tryd.prog w = .ok (adr 0 z0) w := by kernel_rfl
end
theorem _root_.Go.RowKit.Below.al {a w : World} (h : Below a.heap.size a w) (o : Obj) : Below a.heap.size a (w.alloc o) := h.alloc h.size o
theorem _root_.Go.RowKit.Below.con {a w w' : World} (h : Below a.heap.size a w) (k : Below w.heap.size w w') : Below a.heap.size a w' := h.trans (k.mono h.size)
theorem _root_.Go.RowKit.Below.rfl' (a : World) : Below a.heap.size a a := Below.refl _ _
theorem _root_.Go.RowKit.Below.drN {a w : World} (h : Below a.heap.size a w) (n : Nat) : Below a.heap.size a (w.drewN n) := below_drewN h n
theorem _root_.Go.RowKit.Below.row {a w : World} (h : Below a.heap.size a w) {g : Nat} (hg : a.heap.size ≤ g) (cs : Array Value) : Below a.heap.size a (w.setRow g cs) := below_setRow h hg cs
theorem ret_int {k : IntKind} {a b : Int} (h : a = b) : Ending.returned (.int k a) = .returned (.int k b) := by rw [h]
theorem ret_bool {a b : Bool} (h : a = b) : Ending.returned (.bool a) = .returned (.bool b) := by rw [h]

theorem bits_six (b : Nat → Int) (w : World) :
    Calls Tryd.prog 28 #[adr 6 b] w fun e w' => e = .returned (.int .i64 128) ∧ w.alloc (adrO 6 b) = w' := by
  have hv := (HB.new w (ac 6 b) 25).adrV
  go_enter Tryd.func28, Tryd.ntmps28
  go_wp2
  go_ret
  exact ⟨rfl, rfl⟩

theorem bits_none (v : Int) (h4 : (v == 4) = false) (h6 : (v == 6) = false) (b : Nat → Int) (w : World) :
    Calls Tryd.prog 28 #[adr v b] w fun e w' => e = .returned (.int .i64 0) ∧ w.alloc (adrO v b) = w' := by
  have hv := (HB.new w (ac v b) 25).adrV
  go_enter Tryd.func28, Tryd.ntmps28
  go_wp2
  go_ret
  exact ⟨rfl, rfl⟩

/-- The tail of an address of version 4 is zero. -/
def tailZ (b : Nat → Int) : Bool := (List.range 12).all fun j => b (4 + j) == 0
/-- How many bits an address of version 4 has. -/
def bits4F (b : Nat → Int) : Int := if tailZ b then 32 else 0

theorem bits4_no {b : Nat → Int} {k : Nat} (hk : k < 12) (h : (b (4 + k) != 0) = true) : bits4F b = 0 := by
  unfold bits4F tailZ
  rw [if_neg]
  intro hall
  rw [List.all_eq_true] at hall
  have := hall k (by simpa using hk)
  simp_all
theorem bits4_yes {b : Nat → Int} (h : ∀ j, j < 12 → b (4 + j) = 0) : bits4F b = 32 := by
  unfold bits4F tailZ
  rw [if_pos]
  rw [List.all_eq_true]
  intro j hj
  simp [h j (by simpa using hj)]

theorem bits_four (b : Nat → Int) (w : World) :
    Calls Tryd.prog 28 #[adr 4 b] w fun e w' => e = .returned (.int .i64 (bits4F b)) ∧ w.alloc (adrO 4 b) = w' := by
  have hcell := (HB.new w (ac 4 b) 25).adrB
  have hv := (HB.new w (ac 4 b) 25).adrV
  go_enter Tryd.func28, Tryd.ntmps28
  go_wp2
  go_loop [4, 12] (fun _ i => ∃ k : Nat, k ≤ 12 ∧ i = .int .i64 k ∧ ∀ j, j < k → b (4 + j) = 0) (fun _ i => 12 - (intOf i).toNat)
  case atStart => exact ⟨0, by omega, rfl, by omega⟩
  case round =>
    obtain ⟨k, hk, rfl, hz⟩ := hrel
    by_cases hlt : k < 12
    · have hc := hcell (4 + k) (by omega)
      rw [show 1 + (4 + k) = 5 + k by omega] at hc
      clear hcell hv
      have HZ := Lib.hid hz
      clear hz
      go_wp2
      · go_ret
        exact ⟨ret_int (bits4_no hlt ‹_›).symm, rfl⟩
      · go_round
        case rel =>
          refine ⟨k + 1, by omega, by go_num, fun j hj => ?_⟩
          rcases Nat.lt_succ_iff_lt_or_eq.1 hj with h | rfl
          · exact HZ.out j h
          · have h : (b (4 + j) != 0) = false := ‹_›
            simpa using h
        case measure => simp [intOf]; omega
    · have HZ := Lib.hid hz
      clear hz hcell hv
      go_wp2
      go_ret
      exact ⟨ret_int (bits4_yes fun j hj => HZ.out j (by omega)).symm, rfl⟩

def bitsF (v : Int) (b : Nat → Int) : Int := if v = 4 then bits4F b else if v = 6 then 128 else 0
theorem bits_any (v : Int) (b : Nat → Int) (w : World) :
    Calls Tryd.prog 28 #[adr v b] w fun e w' => e = .returned (.int .i64 (bitsF v b)) ∧ w.alloc (adrO v b) = w' := by
  by_cases h4 : v = 4
  · subst h4
    exact bits_four b w
  · by_cases h6 : v = 6
    · subst h6
      exact bits_six b w
    · have : bitsF v b = 0 := by unfold bitsF; rw [if_neg h4, if_neg h6]
      rw [this]
      exact bits_none v (by simpa using h4) (by simpa using h6) b w
def validF (v : Int) (b : Nat → Int) : Bool := decide (0 < bitsF v b)
theorem valid_any (v : Int) (b : Nat → Int) (w : World) :
    Calls Tryd.prog 12 #[adr v b] w fun e w' => e = .returned (.bool (validF v b)) ∧ (w.alloc (adrO v b)).alloc (adrO v b) = w' := by
  go_enter Tryd.func12, Tryd.ntmps12
  go_wp2_with (first | (go_at_call 28; refine (bits_any _ _ _).mono ?_; rintro e w' ⟨rfl, rfl⟩) | (refine ld25 rfl _ rfl _ rfl _ _ (HB.new _ _ _) ?_))
  go_ret
  exact ⟨rfl, rfl⟩
end Go.Proofs.YtodbjjlgnnjmoaaDoor
