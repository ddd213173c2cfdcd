/- The contract of strconv.FormatUint to base 16, below 65536. -/
import Derived.Test.YtodbjjlgnnjmoaaDoorAh
import Derived.Laws.BitsAllLaws
import Derived.Laws.BytesArg
namespace Go.Proofs.YtodbjjlgnnjmoaaDoor
open Go.RowKit
theorem idx64 : IntKind.u64.wrap (bits BinOp.and IntKind.u64 16 (IntKind.u64.wrap (-16)) * 285870213051353865) / 288230376151711744 = 15 := by kernel_rfl
theorem tz64 (w : World) (ht : w.cell? ⟨3, 15, none⟩ = some (.int .u8 4)) : Calls Tryd.prog 75 #[.int .u64 16] w fun e w' => e = .returned (.int .i64 4) ∧ w = w' := by
  have hi := idx64
  go_enter Tryd.func75, Tryd.ntmps75
  go_wp2
  go_ret
  exact ⟨rfl, rfl⟩
theorem tz (w : World) (ht : w.cell? ⟨3, 15, none⟩ = some (.int .u8 4)) : Calls Tryd.prog 68 #[.int .u64 16] w fun e w' => e = .returned (.int .i64 4) ∧ w = w' := by
  go_enter Tryd.func68, Tryd.ntmps68
  go_wp2_with (go_at_call 75; refine (tz64 _ ht).mono ?_; rintro e w' ⟨rfl, rfl⟩)
  go_ret
  exact ⟨rfl, rfl⟩
theorem pow2 (w : World) : Calls Tryd.prog 67 #[.int .i64 16] w fun e w' => e = .returned (.bool true) ∧ w = w' := by
  go_enter Tryd.func67, Tryd.ntmps67
  go_wp2
  go_ret
  exact ⟨rfl, rfl⟩
/-- A row of 65 bytes whose last ones are these. -/
def hexRow (ds : List UInt8) : Array Value := (List.replicate (65 - ds.length) (Value.int .u8 0) ++ ds.map fun b => Value.int .u8 b.toNat).toArray
theorem zero95 (w : World) : (zeroValue 95).run Tryd.prog w = .ok (.agg (hexRow [])) w := by kernel_rfl
theorem al95 {ops : Array Oper} {rest : List Oper} {o : Oper} {a : Act} {w : World} {Q : Exit → Act → World → Prop} (hgd : o.guard = none) (ho : o.op = .alloc 95) (h : wpList Tryd.prog ops Q rest (a.put o.dst (.pointer (some ⟨w.heap.size, 0, none⟩))) (w.alloc (.cells (hexRow []) 95))) : wpList Tryd.prog ops Q (o :: rest) a w := by
  refine wpList_plain hgd fun K hK => ?_
  unfold Oper.wp execOp
  simp only [ho, Sem.run_bind, Instr.alloc, zero95, newVar, newRow, run_newObj_alloc, Sem.run_pure, Result.andThen_ok]
  exact hK _ _ h
/-- The digit of a number below 36. -/
def dgt (n : Nat) : UInt8 := if n < 10 then UInt8.ofNat (48 + n) else UInt8.ofNat (87 + n)
theorem hexRow_step (ds : List UInt8) (d : UInt8) (h : ds.length < 65) : (hexRow ds).setIfInBounds (64 - ds.length) (.int .u8 d.toNat) = hexRow (d :: ds) := by
  unfold hexRow
  have e : 65 - ds.length = (64 - ds.length) + 1 := by omega
  rw [e, List.replicate_succ', List.append_assoc]
  rw [List.setIfInBounds_toArray, List.set_append_right _ _ (by simp)]
  simp
theorem hexRow_zero (ds : List UInt8) (h : ds.length < 65) : (hexRow ds)[65 - ds.length - 1]? = some (.int .u8 0) := by
  unfold hexRow
  rw [List.getElem?_toArray, List.getElem?_append_left (by simp; omega), List.getElem?_replicate, if_pos (by omega)]
theorem hexRow_at (ds : List UInt8) (_h : ds.length ≤ 65) (i : Nat) (d : UInt8) (hi : ds[i]? = some d) : (hexRow ds)[65 - ds.length + i]? = some (.int .u8 d.toNat) := by
  unfold hexRow
  rw [List.getElem?_toArray, List.getElem?_append_right (by simp)]
  simp [hi]
theorem and15 (v : Nat) (hv : v < 65536) : bits BinOp.and IntKind.u64 (v : Int) 15 = ((v % 16 : Nat) : Int) := by
  have h := u64_and_nat v 15 (by omega) (by omega)
  rw [show (15 : Nat) = 2 ^ 4 - 1 from rfl, Nat.and_two_pow_sub_one_eq_mod] at h
  exact h
/-- The digits that are already laid, and what is left. -/
def hexTo : Nat → Nat → List UInt8 → List UInt8
  | 0, v, ds => dgt v :: ds
  | k + 1, v, ds => if v < 16 then dgt v :: ds else hexTo k (v / 16) (dgt (v % 16) :: ds)
def hexT (u : Nat) : List UInt8 := hexTo 3 u []
abbrev digs : ByteArray := ⟨#[48, 49, 50, 51, 52, 53, 54, 55, 56, 57, 97, 98, 99, 100, 101, 102, 103, 104, 105, 106, 107, 108, 109, 110, 111, 112, 113, 114, 115, 116, 117, 118, 119, 120, 121, 122]⟩
theorem digs_at (n : Nat) (hn : n < 36) (h : n < digs.size) : digs[n] = dgt n := by
  revert h
  match n, hn with
  | 0, _ => intro _; rfl
  | 1, _ => intro _; rfl
  | 2, _ => intro _; rfl
  | 3, _ => intro _; rfl
  | 4, _ => intro _; rfl
  | 5, _ => intro _; rfl
  | 6, _ => intro _; rfl
  | 7, _ => intro _; rfl
  | 8, _ => intro _; rfl
  | 9, _ => intro _; rfl
  | 10, _ => intro _; rfl
  | 11, _ => intro _; rfl
  | 12, _ => intro _; rfl
  | 13, _ => intro _; rfl
  | 14, _ => intro _; rfl
  | 15, _ => intro _; rfl
  | 16, _ => intro _; rfl
  | 17, _ => intro _; rfl
  | 18, _ => intro _; rfl
  | 19, _ => intro _; rfl
  | 20, _ => intro _; rfl
  | 21, _ => intro _; rfl
  | 22, _ => intro _; rfl
  | 23, _ => intro _; rfl
  | 24, _ => intro _; rfl
  | 25, _ => intro _; rfl
  | 26, _ => intro _; rfl
  | 27, _ => intro _; rfl
  | 28, _ => intro _; rfl
  | 29, _ => intro _; rfl
  | 30, _ => intro _; rfl
  | 31, _ => intro _; rfl
  | 32, _ => intro _; rfl
  | 33, _ => intro _; rfl
  | 34, _ => intro _; rfl
  | 35, _ => intro _; rfl
  | n + 36, h => exact absurd h (by omega)
theorem hexTo_last {j v : Nat} {ds : List UInt8} (h : v < 16) : hexTo j v ds = dgt v :: ds := by
  cases j with
  | zero => rfl
  | succ j => simp [hexTo, h]
theorem hexTo_step {j v : Nat} {ds : List UInt8} (h : 16 ≤ v) : hexTo (j + 1) v ds = hexTo j (v / 16) (dgt (v % 16) :: ds) := by
  simp only [hexTo]
  rw [if_neg (by omega)]
set_option maxRecDepth 100000 in
theorem fbits (u : Nat) (hu : u < 65536) (w : World) (ht : w.cell? ⟨3, 15, none⟩ = some (.int .u8 4)) :
    Calls Tryd.prog 55 #[.slice none 0 0, .int .u64 u, .int .i64 16, .bool false, .bool false] w fun e w' => e = .returned (.tuple #[.slice none 0 0, .string ⟨(hexT u).toArray⟩]) ∧ Below w.heap.size w w' := by
  have h3 : 3 < w.heap.size := block_lt_of_cell ht
  have HT : Hid ((w.alloc (.cells (hexRow []) 95)).cell? ⟨3, 15, none⟩ = some (.int .u8 4)) := (((Below.rfl' w).al _).cell h3).trans ht
  have g0 := HB.new w (hexRow []) 95
  clear ht
  go_enter Tryd.func55, Tryd.ntmps55
  go_wp2_with (first | (refine al95 rfl rfl ?_) | (go_at_call 67; refine (pow2 _).mono ?_; rintro e w' ⟨rfl, rfl⟩) | (go_at_call 68; refine (tz _ HT.out).mono ?_; rintro e w' ⟨rfl, rfl⟩))
  go_loopw [1, 13] (fun uu i wr => ∃ (j v : Nat) (ds : List UInt8), j + ds.length = 3 ∧ i = .int .i64 (65 - ds.length : Int) ∧ uu = .int .u64 v ∧ v < 16 ^ (j + 1) ∧ hexT u = hexTo j v ds ∧ Below w.heap.size w wr ∧ HB wr w.heap.size (hexRow ds) 95) (fun uu _ _ => (intOf uu).toNat)
  case atStart => exact ⟨3, u, [], rfl, rfl, rfl, hu, rfl, (Below.rfl' _).al _, g0⟩
  case round =>
    obtain ⟨j, v, ds, hj, rfl, rfl, hv, hT, hb, q0⟩ := hrel
    have HTX := Lib.hid hT
    have HJ := Lib.hid hj
    have hlen : ds.length ≤ 3 := by omega
    have hc : wr.cell? ⟨w.heap.size, 65 - ds.length - 1, none⟩ = some (.int .u8 0) := (q0.cell _).trans (hexRow_zero ds (by omega))
    have hf := q0.free (65 - ds.length - 1)
    have hv' : v < 65536 := by
      have : 16 ^ (j + 1) ≤ 16 ^ 4 := Nat.pow_le_pow_right (by omega) (by omega)
      omega
    have HV := Lib.hid hv
    have ha := and15 v hv'
    clear hT g0 hj hv
    by_cases h16 : 16 ≤ v
    · go_wp2
      go_roundw
      case rel =>
        have hj := HJ.out
        have hv := HV.out
        have hj1 : 1 ≤ j := by
          rcases j with _ | j
          · exact absurd hv (by simp; omega)
          · omega
        obtain ⟨j, rfl⟩ : ∃ i, j = i + 1 := ⟨j - 1, by omega⟩
        refine ⟨j, v / 16, dgt (v % 16) :: ds, by simp; omega, by go_num, by go_num, ?_, by rw [HTX.out, hexTo_step h16], hb.setCell (Nat.le_refl _) _, ?_⟩
        · rw [Nat.pow_succ] at hv
          omega
        · have h2 := q0.set (64 - ds.length) (.int .u8 (dgt (v % 16)).toNat)
          rw [hexRow_step ds _ (by omega)] at h2
          rw [digs_at _ (by omega), show 65 - ds.length - 1 = 64 - ds.length by omega]
          exact h2
      case measure => simp [intOf]; omega
    · have hfin : hexT u = dgt v :: ds := by rw [HTX.out, hexTo_last (by omega)]
      have HF := Lib.hid hfin
      clear hfin
      obtain ⟨i, hi⟩ : ∃ i, 64 - ds.length = i := ⟨_, rfl⟩
      have hsl : ∀ W : World, (Instr.sliceAt 95 (.pointer (some ⟨w.heap.size, 0, none⟩)) (some (.int .i64 (65 - (ds.length : Int) - 1))) none none).run Tryd.prog W = .ok (.slice (some ⟨w.heap.size, i, none⟩) (ds.length + 1) (ds.length + 1)) W := fun W => by
        rw [run_sliceAt_array_l W 95 _ (by kernel_rfl) .i64 _ (by omega) (by rw [show Tryd.prog.arrayLen 95 = 65 by kernel_rfl]; omega)]
        rw [show (sizeOf (Tryd.prog.elem 95)).run Tryd.prog W = .ok 1 W by kernel_rfl]
        rw [show Tryd.prog.arrayLen 95 = 65 by kernel_rfl]
        simp only [Result.andThen_ok, slicedAt]
        rw [show (65 - (ds.length : Int) - 1).toNat = i by omega, if_neg (by omega), show 65 - i = ds.length + 1 by omega]
        unfold Addr.add
        rw [if_neg (by omega)]
        simp
      have hcv : ∀ W : World, HB W w.heap.size (hexRow (dgt v :: ds)) 95 → (convert 53 9 (.slice (some ⟨w.heap.size, i, none⟩) (ds.length + 1) (ds.length + 1))).run Tryd.prog W = .ok (.string ⟨(hexT u).toArray⟩) W := fun W h => by
        have := run_convert_bytes_arg (P := Tryd.prog) W 53 5 Tryd.underlying53 Tryd.underlying5 w.heap.size i (ds.length + 1) (ds.length + 1) ((dgt v :: ds).map fun b => (b.toNat : Int)) (by simp) (fun j hj => by
          obtain ⟨d, hd⟩ : ∃ d, (dgt v :: ds)[j]? = some d := ⟨_, List.getElem?_eq_getElem (by simp; omega)⟩
          have h1 := hexRow_at (dgt v :: ds) (by simp; omega) j d hd
          rw [show 65 - (dgt v :: ds).length + j = i + j by simp; omega] at h1
          rw [h.cell, h1, List.getD_eq_getElem?_getD, List.getElem?_map, hd]
          rfl) 9 Tryd.underlying9
        rw [this, HF.out]
        congr 2
        unfold strOfNums
        rw [List.map_map]
        congr 2
        exact List.map_id'' (fun b => by simp) _
      have hq := q0.set (64 - ds.length) (.int .u8 (dgt v).toNat)
      rw [hexRow_step ds _ (by omega), show 64 - ds.length = 65 - ds.length - 1 by omega] at hq
      have HQ := Lib.hid hq
      have HI := Lib.hid hi
      clear hi hq
      go_wp2
      rw [hcv _ (by rw [digs_at v (by omega)]; exact HQ.out)]
      simp only [Result.andThen_ok]
      rw [Oper.upon_value]
      go_wp2
      go_ret2
      exact ⟨rfl, hb.setCell (Nat.le_refl _) _⟩
theorem fmtInner (u : Nat) (hu : u < 65536) (w : World) (ht : w.cell? ⟨3, 15, none⟩ = some (.int .u8 4)) :
    Calls Tryd.prog 43 #[.int .u64 u, .int .i64 16] w fun e w' => e = .returned (.string ⟨(hexT u).toArray⟩) ∧ Below w.heap.size w w' := by
  go_enter Tryd.func43, Tryd.ntmps43
  go_wp2_with (go_at_call 55; refine (fbits u hu _ ht).mono ?_; rintro e w' ⟨rfl, hb⟩)
  go_ret
  exact ⟨rfl, hb⟩
theorem fmt_any (u : Nat) (hu : u < 65536) (w : World) (ht : w.cell? ⟨3, 15, none⟩ = some (.int .u8 4)) :
    Calls Tryd.prog 27 #[.int .u64 u, .int .i64 16] w fun e w' => e = .returned (.string ⟨(hexT u).toArray⟩) ∧ Below w.heap.size w w' := by
  go_enter Tryd.func27, Tryd.ntmps27
  go_wp2_with (go_at_call 43; refine (fmtInner u hu _ ht).mono ?_; rintro e w' ⟨rfl, hb⟩)
  go_ret
  exact ⟨rfl, hb⟩
end Go.Proofs.YtodbjjlgnnjmoaaDoor
