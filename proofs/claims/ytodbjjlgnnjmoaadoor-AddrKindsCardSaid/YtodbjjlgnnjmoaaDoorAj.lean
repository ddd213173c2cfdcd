/- The contract of addr.Print at version 4; what the walks hold of the library's variables. -/
import Derived.Test.YtodbjjlgnnjmoaaDoorAi
import Derived.Test.YtodbjjlgnnjmoaaDoorPd
import Derived.Deep.RegionWith
import Derived.IntWalk
import Derived.Lib.ItoaLen
namespace Go.Proofs.YtodbjjlgnnjmoaaDoor
open Go.RowKit
theorem gPow : Tryd.prog.globalNamed "internal/strconv.uint64pow10" = some 1 := by kernel_rfl
/-- What the library's variables hold. -/
structure Env (m : Int) (w : World) : Prop where
  hm : w.cell? ⟨0, 0, none⟩ = some (.int .i64 m)
  ht : w.cell? ⟨3, 15, none⟩ = some (.int .u8 4)
  hp : Lib.TabIs Tryd.prog w "internal/strconv.uint64pow10" .u64 Lib.pow10Tab
theorem Env.below {m : Int} {w w' : World} {B : Nat} (h : Env m w) (hb : Below B w w') (h3 : 3 < B) : Env m w' :=
  ⟨(hb.cell (p := ⟨0, 0, none⟩) (Nat.lt_of_le_of_lt (Nat.zero_le 3) h3)).trans h.hm, (hb.cell (p := ⟨3, 15, none⟩) h3).trans h.ht, var?_below hb gPow (by omega) h.hp⟩
theorem Env.drew {m : Int} {w : World} (h : Env m w) : Env m w.drew := ⟨h.hm, h.ht, h.hp⟩
theorem Env.drN {m : Int} {w : World} (h : Env m w) (n : Nat) : Env m (w.drewN n) := ⟨h.hm, h.ht, h.hp⟩
theorem Env.lt {m : Int} {w : World} (h : Env m w) : 3 < w.heap.size := block_lt_of_cell h.ht
theorem Env.b {m : Int} {w w' : World} (h : Env m w) (hb : Below w.heap.size w w') : Env m w' := h.below hb h.lt
theorem grow_below (w : World) (os : Array Obj) : Below w.heap.size w («Sort».grow w os) :=
  ⟨rfl, rfl, rfl, by simp, fun k hk => by simp [«Sort».grow, Array.getElem?_append, hk]⟩
theorem itoa_any (n : Int) (h0 : 0 ≤ n) (h1 : n ≤ 255) (w : World) (m : Int) (he : Env m w) :
    Calls Tryd.prog 25 #[.int .i64 n] w fun e w' => e = .returned (.string ⟨(Lib.itoa n).toArray⟩) ∧ Below w.heap.size w w' :=
  (Tryd.strconv_Itoa n (by omega) (by omega) w he.hp).mono fun _ _ ⟨he, k, os, hw⟩ => ⟨he, by rw [hw]; exact ((Below.rfl' w).drN k).con (grow_below _ os)⟩
theorem mk46_4 (w : World) : (Instr.makeSlice 46 (.int .i64 4) (.int .i64 4)).run Tryd.prog w = .ok (.slice (some ⟨w.heap.size, 0, none⟩) 4 4) (w.alloc (.cells (Lib.cellsOf [] 4) 9)) := by kernel_rfl
theorem mk46_8 (w : World) : (Instr.makeSlice 46 (.int .i64 8) (.int .i64 8)).run Tryd.prog w = .ok (.slice (some ⟨w.heap.size, 0, none⟩) 8 8) (w.alloc (.cells (Lib.cellsOf [] 8) 9)) := by kernel_rfl
theorem print_no (v : Int) (b : Nat → Int) (h : validF v b = false) (w : World) :
    Calls Tryd.prog 11 #[adr v b] w fun e w' => e = .returned (.string ⟨#[]⟩) ∧ Below w.heap.size w w' := by
  have h0 := HB.new w (ac v b) 25
  go_enter Tryd.func11, Tryd.ntmps11
  go_wp2_with (first | (go_at_call 12; refine (valid_any _ _ _).mono ?_; rintro e w' ⟨rfl, rfl⟩) | (refine ld25 rfl _ rfl _ rfl _ _ h0 ?_))
  go_ret
  exact ⟨rfl, (((Below.rfl' _).al _).al _).al _⟩
/-- The first k numbers, written. -/
def decs (b : Nat → Int) (k : Nat) : List ByteArray := (List.range k).map fun i => ⟨(Lib.itoa (b i)).toArray⟩
theorem decs_succ (b : Nat → Int) (k : Nat) : decs b (k + 1) = decs b k ++ [⟨(Lib.itoa (b k)).toArray⟩] := by
  unfold decs
  rw [List.range_succ, List.map_append]
  rfl
theorem decs_len (b : Nat → Int) (k : Nat) : (decs b k).length = k := by simp [decs]
theorem decs_next (b : Nat → Int) {k N : Nat} (h : k < N) : (Lib.cellsOf (decs b k) N)[k]? = some (.string ByteArray.empty) := by
  have := Lib.cellsOf_next (done := decs b k) (N := N) (by simpa [decs_len] using h)
  rwa [decs_len] at this
theorem decs_set (b : Nat → Int) {k N : Nat} (h : k < N) : (Lib.cellsOf (decs b k) N).setIfInBounds k (.string ⟨(Lib.itoa (b k)).toArray⟩) = Lib.cellsOf (decs b (k + 1)) N := by
  have := Lib.cellsOf_set (done := decs b k) (N := N) (by simpa [decs_len] using h) ⟨(Lib.itoa (b k)).toArray⟩
  rwa [decs_len, ← decs_succ] at this
theorem lens_le (c : Nat) : ∀ xs : List (List UInt8), (∀ x ∈ xs, x.length ≤ c) → Lib.lens xs ≤ c * xs.length
  | [], _ => by simp [Lib.lens]
  | x :: r, h => by
    have h1 := lens_le c r (fun y hy => h y (by simp [hy]))
    have h2 := h x (by simp)
    have : Lib.lens (x :: r) = x.length + Lib.lens r := by simp [Lib.lens]
    rw [this, List.length_cons, Nat.mul_succ]
    omega
theorem join_le (c : Nat) (xs : List (List UInt8)) (sep : List UInt8) (h : ∀ x ∈ xs, x.length ≤ c) : (Lib.join xs sep).length ≤ (sep.length + c) * xs.length := by
  cases xs with
  | nil => simp [Lib.join_nil]
  | cons x r =>
    rw [Lib.join_length]
    have h1 := lens_le c (x :: r) h
    rw [List.length_cons] at h1 ⊢
    have h2 : sep.length * r.length ≤ sep.length * (r.length + 1) := Nat.mul_le_mul_left _ (by omega)
    rw [Nat.add_mul]
    omega
set_option maxRecDepth 100000 in
theorem print_4 (b : Nat → Int) (hb8 : ∀ i, 0 ≤ b i ∧ b i ≤ 255) (h : validF 4 b = true) (w : World) (m : Int) (he : Env m w) :
    Calls Tryd.prog 11 #[adr 4 b] w fun e w' => e = .returned (.string ⟨(Lib.join ((decs b 4).map (·.data.toList)) [46]).toArray⟩) ∧ Below w.heap.size w w' := by
  have h0 := HB.new w (ac 4 b) 25
  have h1 := (h0.alloc (adrO 4 b)).alloc (adrO 4 b)
  have hv := h1.adrV
  have h2 := h1.alloc (.cells (Lib.cellsOf [] 4) 9)
  have hz : (((w.alloc (adrO 4 b)).alloc (adrO 4 b)).alloc (adrO 4 b)).heap.size = w.heap.size + 3 := by simp
  have h3 := HB.newAt hz (Lib.cellsOf [] 4) 9
  have hmk := mk46_4
  have HE := Lib.hid he
  clear he
  go_enter Tryd.func11, Tryd.ntmps11
  go_wp2_with (first | (go_at_call 12; refine (valid_any _ _ _).mono ?_; rintro e w' ⟨rfl, rfl⟩) | (refine ld25 rfl _ rfl _ rfl _ _ h0 ?_))
  go_loopw [20] (fun i wr => ∃ k : Nat, k ≤ 4 ∧ i = .int .i64 k ∧ Below w.heap.size w wr ∧ HB wr w.heap.size (ac 4 b) 25 ∧ HB wr (w.heap.size + 3) (Lib.cellsOf (decs b k) 4) 9) (fun i _ => 4 - (intOf i).toNat)
  case atStart => exact ⟨0, by omega, rfl, ((((Below.rfl' _).al _).al _).al _).al _, h2, h3⟩
  case round =>
    obtain ⟨k, hk, rfl, hb, q0, q3⟩ := hrel
    clear h0 h1 h2 h3 hz hv hmk
    by_cases hlt : k < 4
    · have hc := q0.adrB k (by omega)
      have hcs := (q3.cell k).trans (decs_next b hlt)
      have hfs := q3.free k
      have hbk := hb8 k
      have HE' := Lib.hid (HE.out.b hb)
      go_wp2_with fail
      refine (itoa_any (b k) hbk.1 hbk.2 _ m HE'.out).mono ?_
      rintro e w1 ⟨rfl, hb1⟩
      have r0 := q0.below hb1 q0.lt
      have r3 := q3.below hb1 q3.lt
      have hcs' := (r3.cell k).trans (decs_next b hlt)
      have hfs' := r3.free k
      have hb2 := hb.con hb1
      clear hb hb1 q0 q3 hc hcs hfs
      go_wp2
      go_roundw
      case rel =>
        refine ⟨k + 1, by omega, by go_num, hb2.setCell (by simp) _, r0.setOther (by simp) _, ?_⟩
        have hs := r3.set k (.string ⟨(Lib.itoa (b k)).toArray⟩)
        rw [decs_set b hlt] at hs
        exact hs
      case measure => simp [intOf]; omega
    · obtain rfl : k = 4 := by omega
      have hfull := Lib.cellsOf_full (decs b 4)
      rw [decs_len] at hfull
      rw [hfull] at q3
      have HJL : Hid ((Lib.join ((decs b 4).map fun x => x.data.toList) (⟨#[46]⟩ : ByteArray).data.toList).length ≤ 140737488355328) := by
        have h1 := join_le 21 ((decs b 4).map fun x => x.data.toList) (⟨#[46]⟩ : ByteArray).data.toList (fun x hx => by
          obtain ⟨y, hy, rfl⟩ := List.mem_map.1 hx
          obtain ⟨i, _, rfl⟩ := List.mem_map.1 hy
          have := hb8 i
          exact Lib.itoa_length_le (b i) (by omega) (by omega))
        rw [List.length_map, decs_len] at h1
        simp only [List.length_cons, List.length_nil] at h1
        exact Nat.le_trans h1 (by omega)
      have hj := Tryd.strings_Join (w.heap.size + 3) 0 4 (decs b 4) ⟨#[46]⟩ wr (fun j x hx => by
        rw [Nat.zero_add, q3.cell j, List.getElem?_toArray, List.getElem?_map, hx]
        rfl) q3.lt (by rw [decs_len]; omega) (by rw [decs_len]; omega) (HJL.out)
      rw [decs_len] at hj
      have HJ := Lib.hid hj
      clear hj hfull
      go_wp2_with fail
      refine HJ.out.mono ?_
      rintro e w1 ⟨rfl, hb1⟩
      go_wp2
      go_ret
      exact ⟨rfl, hb.con hb1⟩
/-- Group number i. -/
def grp (b : Nat → Int) (i : Nat) : Nat := (b (2 * i)).toNat * 256 + (b (2 * i + 1)).toNat
/-- The first k groups, written. -/
def hexs (b : Nat → Int) (k : Nat) : List ByteArray := (List.range k).map fun i => ⟨(hexT (grp b i)).toArray⟩
theorem hexs_succ (b : Nat → Int) (k : Nat) : hexs b (k + 1) = hexs b k ++ [⟨(hexT (grp b k)).toArray⟩] := by
  unfold hexs
  rw [List.range_succ, List.map_append]
  rfl
theorem hexs_len (b : Nat → Int) (k : Nat) : (hexs b k).length = k := by simp [hexs]
theorem hexs_next (b : Nat → Int) {k N : Nat} (h : k < N) : (Lib.cellsOf (hexs b k) N)[k]? = some (.string ByteArray.empty) := by
  have := Lib.cellsOf_next (done := hexs b k) (N := N) (by simpa [hexs_len] using h)
  rwa [hexs_len] at this
theorem hexs_set (b : Nat → Int) {k N : Nat} (h : k < N) : (Lib.cellsOf (hexs b k) N).setIfInBounds k (.string ⟨(hexT (grp b k)).toArray⟩) = Lib.cellsOf (hexs b (k + 1)) N := by
  have := Lib.cellsOf_set (done := hexs b k) (N := N) (by simpa [hexs_len] using h) ⟨(hexT (grp b k)).toArray⟩
  rwa [hexs_len, ← hexs_succ] at this
theorem grp_or {x y : Int} (hx : 0 ≤ x ∧ x ≤ 255) (hy : 0 ≤ y ∧ y ≤ 255) : bits BinOp.or IntKind.u64 (IntKind.u64.wrap (IntKind.u64.wrap x * 256)) (IntKind.u64.wrap y) = ((x.toNat * 256 + y.toNat : Nat) : Int) := by
  rw [IntWalk.u64_in x (by omega), IntWalk.u64_in y (by omega), IntWalk.u64_in (x * 256) (by omega), u64_or _ _ (by omega) (by omega) (by omega) (by omega)]
  rw [nat_join 8 (x * 256).toNat y.toNat (by omega) (by omega)]
  omega
/-- Is group j nought? -/
def zG (b : Nat → Int) (j : Nat) : Bool := grp b j == 0
theorem best_new {z : Nat → Bool} {k n : Nat} (h : zrun z k = n) (hg : (bestGo z k).2 < n) : bestGo z (k + 1) = (k, n) := by
  rw [bestGo, h, if_pos hg]
theorem best_old {z : Nat → Bool} {k n : Nat} (h : zrun z k = n) (hg : ¬ (bestGo z k).2 < n) : bestGo z (k + 1) = bestGo z k := by
  rw [bestGo, h, if_neg hg]
end Go.Proofs.YtodbjjlgnnjmoaaDoor
