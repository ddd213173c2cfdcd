/- Contracts of Kind, Less, Mask, Within. -/
import Derived.Test.YtodbjjlgnnjmoaaDoorAa
namespace Go.Proofs.YtodbjjlgnnjmoaaDoor
open Go.RowKit
abbrev oneB : Nat → Int := fun i => if i = 15 then 1 else 0
abbrev ffB : Nat → Int := fun i => if i < 4 then 255 else 0
theorem built23z : Tryd.prog.built 23 [] = some (bc z0) := by kernel_rfl
theorem built23o : Tryd.prog.built 23 [(15, .int .u8 1)] = some (bc oneB) := by kernel_rfl
theorem built23f : Tryd.prog.built 23 [(0, .int .u8 255), (1, .int .u8 255), (2, .int .u8 255), (3, .int .u8 255)] = some (bc ffB) := by kernel_rfl

section
variable {ops : Array Oper} {rest : List Oper} {o : Oper} {a : Act} {w : World} {Q : Exit → Act → World → Prop}
theorem bu23z (hgd : o.guard = none) (ho : o.op = .build 23 #[]) (h : wpList Tryd.prog ops Q rest (a.put o.dst (.agg (bc z0))) w) : wpList Tryd.prog ops Q (o :: rest) a w :=
  bu23 hgd _ ho _ (by simp only [List.map_toArray, List.map_nil]; exact built23z) h
theorem bu23o (hgd : o.guard = none) (ho : o.op = .build 23 #[(15, .const (.int .u8 1))]) (h : wpList Tryd.prog ops Q rest (a.put o.dst (.agg (bc oneB))) w) : wpList Tryd.prog ops Q (o :: rest) a w :=
  bu23 hgd _ ho _ (by simp only [List.map_toArray, List.map_cons, List.map_nil, Act.eval]; exact built23o) h
theorem bu23f (hgd : o.guard = none) (ho : o.op = .build 23 #[(0, .const (.int .u8 255)), (1, .const (.int .u8 255)), (2, .const (.int .u8 255)), (3, .const (.int .u8 255))])
    (h : wpList Tryd.prog ops Q rest (a.put o.dst (.agg (bc ffB))) w) : wpList Tryd.prog ops Q (o :: rest) a w :=
  bu23 hgd _ ho _ (by simp only [List.map_toArray, List.map_cons, List.map_nil, Act.eval]; exact built23f) h
theorem bu25z (hgd : o.guard = none) (ho : o.op = .build 25 #[]) (h : wpList Tryd.prog ops Q rest (a.put o.dst (adr 0 z0)) w) : wpList Tryd.prog ops Q (o :: rest) a w :=
  bu25 hgd _ ho _ _ (by simp only [List.map_toArray, List.map_nil]; exact built0) h
end
/-- What Kind tells. -/
def kindF (v : Int) (b : Nat → Int) : Int :=
  if validF v b = false then 0 else if eqB b z0 then 1
  else if v = 6 then (if eqB b oneB then 2 else if b 0 = 255 then 3 else 5)
  else if b 0 = 127 then 2 else if 224 ≤ b 0 ∧ b 0 ≤ 239 then 3 else if eqB b ffB then 4 else 5

theorem kind_any (v : Int) (b : Nat → Int) (w : World) :
    Calls Tryd.prog 17 #[adr v b] w fun e w' => e = .returned (.int .i64 (kindF v b)) ∧ Below w.heap.size w w' := by
  have eq23' := eq23
  have h0 := HB.new w (ac v b) 25
  have h1 := (h0.alloc (adrO v b)).alloc (adrO v b)
  have hv := h1.adrV
  have hb := h1.adrB 0 (by omega)
  go_enter Tryd.func17, Tryd.ntmps17
  go_wp2_with (first | (go_at_call 12; refine (valid_any _ _ _).mono ?_; rintro e w' ⟨rfl, rfl⟩) | (refine ld25 rfl _ rfl _ rfl _ _ h0 ?_) | (refine ld23 rfl _ rfl _ rfl _ _ h1 ?_) | (refine bu23z rfl rfl ?_) | (refine bu23o rfl rfl ?_) | (refine bu23f rfl rfl ?_))
  all_goals
    go_ret
    refine ⟨ret_int ?_, (((Below.rfl' _).al _).al _).al _⟩
    clear h0 h1 hv hb eq23'
    unfold kindF
    simp_all <;> omega
section
variable {ops : Array Oper} {rest : List Oper} {o : Oper} {a : Act} {w : World} {Q : Exit → Act → World → Prop}
/-- A new address, zero. -/
theorem al25 (hgd : o.guard = none) (ho : o.op = .alloc 25) (h : wpList Tryd.prog ops Q rest (a.put o.dst (.pointer (some ⟨w.heap.size, 0, none⟩))) (w.alloc (adrO 0 z0))) : wpList Tryd.prog ops Q (o :: rest) a w := by
  refine wpList_plain hgd fun K hK => ?_
  unfold Oper.wp execOp
  simp only [ho, Sem.run_bind, Instr.alloc, zero25, newVar, newRow, run_newObj_alloc, Sem.run_pure, Result.andThen_ok]
  exact hK _ _ h
end
/-- Two results, the first an address in memory. -/
theorem ret25 {fn : Func} {R : Ending → World → Prop} {a : Act} {w : World} {p u : Tmp} {g : Nat} {v : Int} {b : Nat → Int} (hf : fn.results = #[.cell p 25, .tmp u]) (hd : a.defers = [])
    (hp : a.tmps.getD p undef = .pointer (some ⟨g, 0, none⟩)) (hg : HB w g (ac v b) 25) (hR : R (.returned (.tuple #[adr v b, a.tmps.getD u undef])) w) : bodyPost Tryd.prog fn R .ret a w := by
  refine bodyPost_ret (v := .tuple #[adr v b, a.tmps.getD u undef]) ?_ hd hR
  rw [results_cell_tmp hf, hp]
  simp only [asAddr, Sem.run_pure, Result.andThen_ok, run_loadVar_row w g 25 25 (ac v b) (0, 0) _ hg Tryd.underlying25 rfl info25]
theorem mask_no1 (v : Int) (b : Nat → Int) (n : Int) (h : (bitsF v b == 0) = true) (w : World) :
    Calls Tryd.prog 15 #[adr v b, .int .i64 n] w fun e w' => e = .returned (.tuple #[adr 0 z0, .int .i64 1]) ∧ Below w.heap.size w w' := by
  have h0 := (HB.new w (ac v b) 25).alloc (adrO 0 z0)
  have h1 := (HB.newAt (w := w.alloc (adrO v b)) (g := w.heap.size + 1) (by simp) (ac 0 z0) 25).alloc (adrO v b)
  go_enter Tryd.func15, Tryd.ntmps15
  go_wp2_with (first | (go_at_call 28; refine (bits_any _ _ _).mono ?_; rintro e w' ⟨rfl, rfl⟩) | (refine al25 rfl rfl ?_) | (refine ld25 rfl _ rfl _ rfl _ _ h0 ?_) | (refine bu25z rfl rfl ?_) | (refine st25 rfl _ _ rfl _ rfl _ _ _ _ rfl h1 ?_))
  exact ret25 rfl rfl rfl (h1.row _) ⟨rfl, ((((Below.rfl' _).al _).al _).al _).row (by simp) _⟩
theorem mask_no2 (v : Int) (b : Nat → Int) (n : Int) (h : (bitsF v b == 0) = false) (h2 : n < 0) (w : World) :
    Calls Tryd.prog 15 #[adr v b, .int .i64 n] w fun e w' => e = .returned (.tuple #[adr 0 z0, .int .i64 1]) ∧ Below w.heap.size w w' := by
  have h0 := (HB.new w (ac v b) 25).alloc (adrO 0 z0)
  have h1 := (HB.newAt (w := w.alloc (adrO v b)) (g := w.heap.size + 1) (by simp) (ac 0 z0) 25).alloc (adrO v b)
  go_enter Tryd.func15, Tryd.ntmps15
  go_wp2_with (first | (go_at_call 28; refine (bits_any _ _ _).mono ?_; rintro e w' ⟨rfl, rfl⟩) | (refine al25 rfl rfl ?_) | (refine ld25 rfl _ rfl _ rfl _ _ h0 ?_) | (refine bu25z rfl rfl ?_) | (refine st25 rfl _ _ rfl _ rfl _ _ _ _ rfl h1 ?_))
  exact ret25 rfl rfl rfl (h1.row _) ⟨rfl, ((((Below.rfl' _).al _).al _).al _).row (by simp) _⟩
theorem mask_no3 (v : Int) (b : Nat → Int) (n : Int) (h : (bitsF v b == 0) = false) (h2 : 0 ≤ n) (h3 : bitsF v b < n) (w : World) :
    Calls Tryd.prog 15 #[adr v b, .int .i64 n] w fun e w' => e = .returned (.tuple #[adr 0 z0, .int .i64 1]) ∧ Below w.heap.size w w' := by
  have h0 := (HB.new w (ac v b) 25).alloc (adrO 0 z0)
  have h1 := (HB.newAt (w := w.alloc (adrO v b)) (g := w.heap.size + 1) (by simp) (ac 0 z0) 25).alloc (adrO v b)
  go_enter Tryd.func15, Tryd.ntmps15
  go_wp2_with (first | (go_at_call 28; refine (bits_any _ _ _).mono ?_; rintro e w' ⟨rfl, rfl⟩) | (refine al25 rfl rfl ?_) | (refine ld25 rfl _ rfl _ rfl _ _ h0 ?_) | (refine bu25z rfl rfl ?_) | (refine st25 rfl _ _ rfl _ rfl _ _ _ _ rfl h1 ?_))
  exact ret25 rfl rfl rfl (h1.row _) ⟨rfl, ((((Below.rfl' _).al _).al _).al _).row (by simp) _⟩

theorem ac_set (v : Int) (b : Nat → Int) (k : Nat) (x : Int) (hk : k < 16) : (ac v b).setIfInBounds (1 + k) (.int .u8 x) = ac v (fun i => if i = k then x else b i) := by
  match k, hk with
  | 0, _ => rfl
  | 1, _ => rfl
  | 2, _ => rfl
  | 3, _ => rfl
  | 4, _ => rfl
  | 5, _ => rfl
  | 6, _ => rfl
  | 7, _ => rfl
  | 8, _ => rfl
  | 9, _ => rfl
  | 10, _ => rfl
  | 11, _ => rfl
  | 12, _ => rfl
  | 13, _ => rfl
  | 14, _ => rfl
  | 15, _ => rfl
  | n + 16, h => exact absurd h (by omega)
theorem ac_congr (v : Int) {b b' : Nat → Int} (h : ∀ i, i < 16 → b i = b' i) : ac v b = ac v b' := by
  unfold ac
  rw [h 0 (by omega), h 1 (by omega), h 2 (by omega), h 3 (by omega), h 4 (by omega), h 5 (by omega), h 6 (by omega), h 7 (by omega), h 8 (by omega), h 9 (by omega), h 10 (by omega), h 11 (by omega), h 12 (by omega), h 13 (by omega), h 14 (by omega), h 15 (by omega)]
/-- How many bits of a byte are kept. -/
def keepN (n : Int) (i : Nat) : Nat := (min 8 (max 0 (n - 8 * i))).toNat
/-- A masked byte. -/
def maskF (n : Int) (b : Nat → Int) : Nat → Int := fun i => bits .and .u8 (b i) (65280 / 2 ^ keepN n i % 256)
/-- Masked so far. -/
def mk (n : Int) (b : Nat → Int) (k : Nat) : Nat → Int := fun i => if i < k then maskF n b i else b i
theorem mk_at (n : Int) (b : Nat → Int) (k : Nat) : mk n b k k = b k := by simp [mk]
theorem mk_step (v n : Int) (b : Nat → Int) (k : Nat) (x : Int) (hk : k < 16) (hx : x = maskF n b k) : (ac v (mk n b k)).setIfInBounds (1 + k) (.int .u8 x) = ac v (mk n b (k + 1)) := by
  subst hx
  rw [ac_set v _ k _ hk]
  refine ac_congr v fun i _ => ?_
  unfold mk
  by_cases e : i = k
  · subst e; simp
  · simp only [e, if_false]
    by_cases l : i < k
    · rw [if_pos l, if_pos (by omega)]
    · rw [if_neg l, if_neg (by omega)]
theorem mk_end (v n : Int) (b : Nat → Int) : ac v (mk n b 16) = ac v (maskF n b) := ac_congr v fun i hi => by simp [mk, hi]
theorem maskF_0 (n : Int) (b : Nat → Int) (k : Nat) (h : n - 8 * k ≤ 0) : bits .and .u8 (b k) 0 = maskF n b k := by
  have : keepN n k = 0 := by unfold keepN; omega
  unfold maskF; rw [this]; rfl
theorem maskF_8 (n : Int) (b : Nat → Int) (k : Nat) (h : 8 ≤ n - 8 * k) : bits .and .u8 (b k) 255 = maskF n b k := by
  have : keepN n k = 8 := by unfold keepN; omega
  unfold maskF; rw [this]; rfl
theorem maskF_m (n : Int) (b : Nat → Int) (k : Nat) (h : 0 < n - 8 * k ∧ n - 8 * k < 8) : bits .and .u8 (b k) (65280 / 2 ^ (n - 8 * k).toNat % 256) = maskF n b k := by
  have : keepN n k = (n - 8 * k).toNat := by unfold keepN; omega
  unfold maskF; rw [this]
theorem bitsF_le (v : Int) (b : Nat → Int) : 0 ≤ bitsF v b ∧ bitsF v b ≤ 128 := by
  unfold bitsF bits4F
  repeat' split
  all_goals omega
theorem mask_y (v : Int) (b : Nat → Int) (n : Int) (h : (bitsF v b == 0) = false) (h2 : 0 ≤ n) (h3 : n ≤ bitsF v b) (w : World) :
    Calls Tryd.prog 15 #[adr v b, .int .i64 n] w fun e w' => e = .returned (.tuple #[adr v (maskF n b), .int .i64 0]) ∧ Below w.heap.size w w' := by
  have h0 := (HB.new w (ac v b) 25).alloc (adrO 0 z0)
  have h1 := (HB.newAt (w := w.alloc (adrO v b)) (g := w.heap.size + 1) (by simp) (ac 0 z0) 25).alloc (adrO v b)
  go_enter Tryd.func15, Tryd.ntmps15
  go_wp2_with (first | (go_at_call 28; refine (bits_any _ _ _).mono ?_; rintro e w' ⟨rfl, rfl⟩) | (refine al25 rfl rfl ?_) | (refine ld25 rfl _ rfl _ rfl _ _ h0 ?_))
  go_loopw [7, 8, 23] (fun _ _ i wr => ∃ k : Nat, k ≤ 16 ∧ i = .int .i64 k ∧ Below w.heap.size w wr ∧ HB wr w.heap.size (ac v (mk n b k)) 25 ∧ HB wr (w.heap.size + 1) (ac 0 z0) 25) (fun _ _ i _ => 16 - (intOf i).toNat)
  case atStart => exact ⟨0, by omega, rfl, (((Below.rfl' _).al _).al _).al _, h0.alloc _, h1⟩
  case round =>
    obtain ⟨k, hk, rfl, hb, g0, g1⟩ := hrel
    clear h0 h1
    by_cases hlt : k < 16
    · have hc := g0.adrB k hlt
      rw [mk_at] at hc
      have hf := g0.free (1 + k)
      have hn := bitsF_le v b
      have hn' : n ≤ 128 := by omega
      rcases (by omega : n - 8 * k < 0 ∨ n - 8 * k = 0 ∨ (0 < n - 8 * k ∧ n - 8 * k < 8) ∨ n - 8 * k = 8 ∨ 8 < n - 8 * k) with hcase | hcase | hcase | hcase | hcase
      all_goals
        go_wp2
        go_region
        go_wp2
        go_roundw
        case rel =>
          refine ⟨k + 1, by omega, by go_num, (hb.setCell (by simp) _).drew, ?_, (g1.setOther (by simp) _).drew⟩
          have hs := g0.set (1 + k)
          rw [← mk_step v n b k _ hlt (by first | exact maskF_0 n b k (by omega) | exact maskF_8 n b k (by omega) | exact maskF_m n b k hcase)]
          exact (hs _).drew
        case measure => simp [intOf]; omega
    · obtain rfl : k = 16 := by omega
      clear hk
      rw [mk_end] at g0
      go_wp2_with (first | (refine ld25 rfl _ rfl _ rfl _ _ g0 ?_) | (refine st25 rfl _ _ rfl _ rfl _ _ _ _ rfl g1 ?_))
      exact ret25 rfl rfl rfl (g1.row _) ⟨rfl, hb.row (by simp) _⟩
end Go.Proofs.YtodbjjlgnnjmoaaDoor
