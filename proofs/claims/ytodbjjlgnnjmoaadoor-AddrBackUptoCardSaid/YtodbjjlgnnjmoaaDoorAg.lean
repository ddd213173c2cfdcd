/- The contract of addr.six: a text of version 6 is read. -/
import Derived.Test.YtodbjjlgnnjmoaaDoorAf
import Derived.Test.YtodbjjlgnnjmoaaDoorPc
namespace Go.Proofs.YtodbjjlgnnjmoaaDoor
open Go.RowKit
theorem built6 : Tryd.prog.built 25 [(0, .int .i64 6)] = some (ac 6 z0) := by kernel_rfl
section
variable {ops : Array Oper} {rest : List Oper} {o : Oper} {a : Act} {w : World} {Q : Exit → Act → World → Prop}
theorem bu25_6 (hgd : o.guard = none) (ho : o.op = .build 25 #[(0, .const (.int .i64 6))]) (h : wpList Tryd.prog ops Q rest (a.put o.dst (adr 6 z0)) w) : wpList Tryd.prog ops Q (o :: rest) a w :=
  bu25 hgd _ ho _ _ (by simp only [List.map_toArray, List.map_cons, List.map_nil, Act.eval]; exact built6) h
end
/-- How 'six' ends. -/
def SixR (s : ByteArray) (w : World) (e : Ending) (w' : World) : Prop :=
  ∃ b : Nat → Int, e = .returned (.tuple #[adr 6 b, .bool (okSix s.data.toList)]) ∧ (okSix s.data.toList = true → b = valSix s.data.toList) ∧ Below w.heap.size w w'
/-- A row of groups, opened. -/
theorem owns_open {w : World} {base : Nat} {v : Value} {n : Nat} {l : List Nat} (h : w.ownsRow base 61 1 v n (u16s l)) :
    ∃ (a : Option Addr) (c : Nat), v = .slice a n c ∧ ∀ k, k < n → ∃ g, a = some ⟨g, 0, none⟩ ∧ base ≤ g := by
  obtain ⟨hl, h⟩ := h
  rcases h with ⟨rfl, rfl⟩ | ⟨g, cap, cur, rfl, hg, _⟩
  · exact ⟨none, 0, rfl, fun k hk => by omega⟩
  · exact ⟨_, _, rfl, fun k _ => ⟨g, rfl, hg⟩⟩
theorem owns_cell {w : World} {base g : Nat} {n c : Nat} {l : List Nat} (h : w.ownsRow base 61 1 (.slice (some ⟨g, 0, none⟩) n c) n (u16s l)) (k : Nat) (hk : k < n) :
    w.cell? ⟨g, k, none⟩ = some (.int .u16 ((l.getD k 0 : Nat) : Int)) := by
  have hl := h.1
  have := h.cells (g := g) rfl k (.int .u16 ((l.getD k 0 : Nat) : Int)) (by
    unfold u16s at hl ⊢
    rw [List.length_map, Nat.mul_one] at hl
    rw [List.getElem?_map, List.getElem?_eq_getElem (by omega), List.getD_eq_getElem?_getD, List.getElem?_eq_getElem (by omega)]
    rfl)
  rw [← this]
  unfold Addr.add
  split
  · rename_i e; subst e; rfl
  · simp
theorem valG_len (l : List UInt8) : (valG l).length ≤ l.length + 1 := by
  unfold valG
  split
  · simp
  · split
    · rw [List.length_map, pcs_length]
      have := List.count_le_length (a := (58 : UInt8)) (l := l)
      omega
    · simp
theorem frS_len (l : List UInt8) : (frS l).length ≤ l.length := by
  unfold frS Lib.cut
  split
  · simp only [List.length_take]
    omega
  · exact Nat.le_refl _
theorem bkS_len (l : List UInt8) : (bkS l).length ≤ l.length := by
  unfold bkS Lib.cut
  split
  · simp
  · simp
theorem valG_getD (l : List UInt8) (k : Nat) : (valG l).getD k 0 < 65536 := by
  rw [List.getD_eq_getElem?_getD]
  cases h : (valG l)[k]? with
  | none => simp
  | some n => exact valG_lt (List.mem_of_getElem? h)
theorem two_set {w : World} {g : Nat} {v : Int} {b b' : Nat → Int} (h : HB w g (ac v b) 25) (i j : Nat) (p r : Int) (hi : i < 16) (hj : j < 16) (hb : ∀ n, n < 16 → b' n = if n = j then r else if n = i then p else b n) :
    HB ((w.setCell ⟨g, 1 + i, none⟩ (.int .u8 p)).setCell ⟨g, 1 + j, none⟩ (.int .u8 r)) g (ac v b') 25 := by
  have h2 := (h.set (1 + i) (.int .u8 p)).set (1 + j) (.int .u8 r)
  rw [ac_set v b i p hi, ac_set v _ j r hj] at h2
  rw [ac_congr v (b := b') (b' := fun n => if n = j then r else if n = i then p else b n) hb]
  exact h2
set_option maxRecDepth 100000 in
set_option maxHeartbeats 1000000 in
theorem six_any (s : ByteArray) (w : World) (m : Int) (hs : s.size < 4294967281) (hm : w.cell? ⟨0, 0, none⟩ = some (.int .i64 m)) :
    Calls Tryd.prog 21 #[.string s] w (SixR s w) := by
  have h0 := block_lt_of_cell hm
  have hm1 : ((w.alloc (adrO 0 z0)).alloc (adrO 6 z0)).cell? ⟨0, 0, none⟩ = some (.int .i64 m) := ((((Below.rfl' w).al _).al _).cell h0).trans hm
  have g0 := (HB.new w (ac 0 z0) 25).alloc (adrO 6 z0)
  have g1 := HB.newAt (w := w.alloc (adrO 0 z0)) (g := w.heap.size + 1) (by simp) (ac 6 z0) 25
  have HM := Lib.hid hm1
  have HM0 := Lib.hid hm
  clear hm hm1
  go_enter Tryd.func21, Tryd.ntmps21
  go_wp2_with (first | (refine al25 rfl rfl ?_) | (refine bu25_6 rfl rfl ?_) | (refine st25 rfl _ _ rfl _ rfl _ _ _ _ rfl (HB.new _ _ _) ?_; rw [World.setRow_alloc_new]))
  refine (Tryd.strings_Cut s ⟨#[58, 58]⟩ m _ hs HM.out).mono ?_
  rintro e w1 ⟨rfl, q, rfl⟩
  have e0 : (⟨#[58, 58]⟩ : ByteArray).data.toList = [58, 58] := rfl
  rw [e0]
  obtain ⟨fr, hfr⟩ : ∃ fr : ByteArray, (⟨(Lib.cut s.data.toList [58, 58]).1.toArray⟩ : ByteArray) = fr := ⟨_, rfl⟩
  obtain ⟨bk, hbk⟩ : ∃ bk : ByteArray, (⟨(Lib.cut s.data.toList [58, 58]).2.1.toArray⟩ : ByteArray) = bk := ⟨_, rfl⟩
  obtain ⟨gap, hgap⟩ : ∃ gap, (Lib.cut s.data.toList [58, 58]).2.2 = gap := ⟨_, rfl⟩
  rw [hfr, hbk, hgap]
  have hl := len_size s
  have hfr' : fr.data.toList = frS s.data.toList := by rw [← hfr]; unfold frS; simp
  have hbk' : bk.data.toList = bkS s.data.toList := by rw [← hbk]; unfold bkS; simp
  have hfs : fr.size < 4294967281 := by
    have := frS_len s.data.toList
    rw [← hfr', len_size] at this
    omega
  have hbs : bk.size < 4294967281 := by
    have := bkS_len s.data.toList
    rw [← hbk', len_size] at this
    omega
  obtain ⟨x, hx⟩ : ∃ x, valG fr.data.toList = x := ⟨_, rfl⟩
  obtain ⟨y, hy⟩ : ∃ y, valG bk.data.toList = y := ⟨_, rfl⟩
  obtain ⟨okx, hokx⟩ : ∃ k, okG fr.data.toList = k := ⟨_, rfl⟩
  obtain ⟨oky, hoky⟩ : ∃ k, okG bk.data.toList = k := ⟨_, rfl⟩
  have hnx : x.length ≤ 4294967281 := by have := valG_len fr.data.toList; rw [hx, len_size] at this; omega
  have hny : y.length ≤ 4294967281 := by have := valG_len bk.data.toList; rw [hy, len_size] at this; omega
  have hokS : okSix s.data.toList = (okx && (oky && (if gap then decide (x.length + y.length ≤ 7) else decide (x.length + y.length = 8)))) := by
    unfold okSix nS gapS
    rw [← hfr', ← hbk', hokx, hoky, hx, hy, hgap]
  have hvalS : valSix s.data.toList = backB x y y.length := by
    unfold valSix
    rw [← hfr', ← hbk', hx, hy]
  have HXV : Hid (∀ k, x.getD k 0 < 65536) := fun k => by rw [← hx]; exact valG_getD _ k
  have HYV : Hid (∀ k, y.getD k 0 < 65536) := fun k => by rw [← hy]; exact valG_getD _ k
  have HOKS := Lib.hid hokS
  have HVALS := Lib.hid hvalS
  have HX := Lib.hid (And.intro hx (And.intro hy (And.intro hokx hoky)))
  have hb1 : Below w.heap.size w (((w.alloc (adrO 0 z0)).alloc (adrO 6 z0)).drewN q) := (((Below.rfl' w).al _).al _).drN q
  have q0 := g0.drN q
  have q1 := g1.drN q
  have hm1 := (hb1.cell (p := ⟨0, 0, none⟩) h0).trans HM0.out
  have HM1 := Lib.hid hm1
  obtain ⟨W1, hW1⟩ : ∃ W1, ((w.alloc (adrO 0 z0)).alloc (adrO 6 z0)).drewN q = W1 := ⟨_, rfl⟩
  rw [hW1] at hb1 q0 q1 HM1 ⊢
  clear hW1 hm1 g0 g1 HM hfr hbk hgap hfr' hbk' hl hx hy hokx hoky hokS hvalS e0 hs
  go_wp2_with fail
  refine (groups_any fr _ m hfs HM1.out).mono ?_
  rintro e w2 ⟨vx, rfl, hox, hb2⟩
  rw [HX.out.1] at hox
  rw [HX.out.2.2.1]
  have HM2 := Lib.hid ((hb2.cell (p := ⟨0, 0, none⟩) (Nat.lt_of_lt_of_le h0 hb1.size)).trans HM1.out)
  have hb1' := hb1.con hb2
  have q0' := q0.below hb2 q0.lt
  have q1' := q1.below hb2 q1.lt
  have hsz1 : w.heap.size + 2 ≤ W1.heap.size := by have := q1.lt; omega
  clear hb1 hb2 q0 q1 HM1
  go_wp2_with fail
  refine (groups_any bk _ m hbs HM2.out).mono ?_
  rintro e w3 ⟨vy, rfl, hoy, hb3⟩
  rw [HX.out.2.1] at hoy
  rw [HX.out.2.2.2]
  have hox' := owns_below hox hb3
  have hb := hb1'.con hb3
  have q0 := q0'.below hb3 q0'.lt
  have q1 := q1'.below hb3 q1'.lt
  have hsz2 : w.heap.size + 2 ≤ w2.heap.size := by have := q1'.lt; omega
  clear hb1' hb3 q0' q1' HM2 HM0 hox HX hfs hbs
  obtain ⟨ax, cx, rfl, hax⟩ := owns_open hox'
  obtain ⟨ay, cy, rfl, hay⟩ := owns_open hoy
  have HAX := Lib.hid hax
  have HAY := Lib.hid hay
  have HF : Hid (okSix s.data.toList = false → SixR s w (.returned (.tuple #[adr 6 z0, .bool false])) (w3.setRow w.heap.size (ac 6 z0))) := fun h => ⟨z0, by rw [h], fun h' => (by rw [h] at h'; cases h'), hb.row (Nat.le_refl _) _⟩
  clear hax hay
  cases okx
  · go_wp2_with (first | (refine ld25 rfl _ rfl _ rfl _ _ q1 ?_) | (refine st25 rfl _ _ rfl _ rfl _ _ _ _ rfl q0 ?_))
    exact ret25 rfl rfl rfl (q0.row _) (HF.out (by rw [HOKS.out]; rfl))
  · cases oky
    · go_wp2_with (first | (refine ld25 rfl _ rfl _ rfl _ _ q1 ?_) | (refine st25 rfl _ _ rfl _ rfl _ _ _ _ rfl q0 ?_))
      exact ret25 rfl rfl rfl (q0.row _) (HF.out (by rw [HOKS.out]; rfl))
    · by_cases hbad : (gap = true ∧ 7 < x.length + y.length) ∨ (gap = false ∧ x.length + y.length ≠ 8)
      · rcases hbad with ⟨rfl, hn⟩ | ⟨rfl, hn⟩
        · go_wp2_with (first | (refine ld25 rfl _ rfl _ rfl _ _ q1 ?_) | (refine st25 rfl _ _ rfl _ rfl _ _ _ _ rfl q0 ?_))
          exact ret25 rfl rfl rfl (q0.row _) (HF.out (by rw [HOKS.out]; simp; omega))
        · have hn' : ((x.length : Int) + (y.length : Int) != 8) = true := by rw [bne_iff_ne]; omega
          go_wp2_with (first | (refine ld25 rfl _ rfl _ rfl _ _ q1 ?_) | (refine st25 rfl _ _ rfl _ rfl _ _ _ _ rfl q0 ?_))
          exact ret25 rfl rfl rfl (q0.row _) (HF.out (by rw [HOKS.out]; simp; omega))
      · have hok : okSix s.data.toList = true ∧ x.length + y.length ≤ 8 := by
          rw [HOKS.out]
          cases gap
          · have : x.length + y.length = 8 := by
              by_cases h : x.length + y.length = 8
              · exact h
              · exact absurd (.inr ⟨rfl, h⟩) hbad
            simp [this]
          · have : x.length + y.length ≤ 7 := by
              by_cases h : x.length + y.length ≤ 7
              · exact h
              · exact absurd (.inl ⟨rfl, by omega⟩) hbad
            simp
            omega
        obtain ⟨hok1, hn8⟩ := hok
        have HOK1 := Lib.hid hok1
        clear hok1
        have hcase : (gap = true ∧ (x.length : Int) + (y.length : Int) ≤ 7) ∨ (gap = false ∧ ((x.length : Int) + (y.length : Int) != 8) = false) := by
          cases gap
          · right
            refine ⟨rfl, ?_⟩
            by_cases h : x.length + y.length = 8
            · rw [bne_eq_false_iff_eq]; omega
            · exact absurd (.inr ⟨rfl, h⟩) hbad
          · left
            refine ⟨rfl, ?_⟩
            by_cases h : x.length + y.length ≤ 7
            · omega
            · exact absurd (.inl ⟨rfl, by omega⟩) hbad
        clear hbad
        rcases hcase with ⟨rfl, hn⟩ | ⟨rfl, hn⟩
        all_goals
          go_wp2
          clear hn
          go_loopw [64] (fun i wr => ∃ k : Nat, k ≤ x.length ∧ i = .int .i64 k ∧ Below w.heap.size w wr ∧ HB wr w.heap.size (ac 0 z0) 25 ∧ HB wr (w.heap.size + 1) (ac 6 (frontB x k)) 25 ∧ wr.ownsRow W1.heap.size 61 1 (.slice ax x.length cx) x.length (u16s x) ∧ wr.ownsRow w2.heap.size 61 1 (.slice ay y.length cy) y.length (u16s y)) (fun i _ => x.length - (intOf i).toNat)
          case atStart => exact ⟨0, by omega, rfl, hb, q0, q1, hox', hoy⟩
          case round =>
            obtain ⟨k, hk, rfl, hbr, p0, p1, rx, ry⟩ := hrel
            clear hb q0 q1 hox' hoy
            by_cases hlt : k < x.length
            · obtain ⟨g, rfl, hg⟩ := HAX.out k hlt
              have hc := owns_cell rx k hlt
              obtain ⟨gk, hgk⟩ : ∃ gk, x.getD k 0 = gk := ⟨_, rfl⟩
              have hv := HXV.out k
              rw [hgk] at hv hc
              have HGK := Lib.hid hgk
              have c1 := p1.adrB (2 * k) (by omega)
              have c2 := p1.adrB (2 * k + 1) (by omega)
              have f1 := p1.free (1 + 2 * k)
              have f2 := p1.free (1 + (2 * k + 1))
              have HGE : Hid (w.heap.size + 2 ≤ g) := Nat.le_trans hsz1 hg
              clear hgk hg
              go_wp2
              go_roundw
              case rel =>
                have hg2 := HGE.out
                refine ⟨k + 1, by omega, by go_num, (hbr.setCell (by simp) _).setCell (by simp) _, (p0.setOther (by simp) _).setOther (by simp) _, two_set p1 (2 * k) (2 * k + 1) _ _ (by omega) (by omega) (fun n hn => ?_), ownsRow_setCell_below (ownsRow_setCell_below rx (by simp; omega) _) (by simp; omega) _, ownsRow_setCell_below (ownsRow_setCell_below ry (by simp; omega) _) (by simp; omega) _⟩
                rw [front_step x k n hn, HGK.out]
                have e1 : ((gk / 256 : Nat) : Int) = (gk : Int) / 256 := by omega
                have e2 : ((gk % 256 : Nat) : Int) = (gk : Int) % 256 := by omega
                rw [e1, e2]
              case measure => simp [intOf]; omega
            · obtain rfl : k = x.length := by omega
              clear hk hlt
              rw [front_end x y] at p1
              go_wp2
              go_loopw [86] (fun i wr => ∃ k : Nat, k ≤ y.length ∧ i = .int .i64 k ∧ Below w.heap.size w wr ∧ HB wr w.heap.size (ac 0 z0) 25 ∧ HB wr (w.heap.size + 1) (ac 6 (backB x y k)) 25 ∧ wr.ownsRow w2.heap.size 61 1 (.slice ay y.length cy) y.length (u16s y)) (fun i _ => y.length - (intOf i).toNat)
              case atStart => exact ⟨0, by omega, rfl, hbr, p0, p1, ry⟩
              case round =>
                obtain ⟨k, hk, rfl, hbs, r0, r1, ry'⟩ := hrel
                clear hbr p0 p1 ry
                by_cases hlt : k < y.length
                · obtain ⟨g, rfl, hg⟩ := HAY.out k hlt
                  have hc := owns_cell ry' k hlt
                  obtain ⟨gk, hgk⟩ : ∃ gk, y.getD k 0 = gk := ⟨_, rfl⟩
                  have hv := HYV.out k
                  rw [hgk] at hv hc
                  have HGK := Lib.hid hgk
                  have HGE : Hid (w.heap.size + 2 ≤ g) := Nat.le_trans hsz2 hg
                  have c1 := r1.adrB (16 - 2 * (y.length - k)) (by omega)
                  have c2 := r1.adrB (16 - 2 * (y.length - k) + 1) (by omega)
                  have f1 := r1.free (1 + (16 - 2 * (y.length - k)))
                  have f2 := r1.free (1 + (16 - 2 * (y.length - k) + 1))
                  clear hgk hg
                  go_wp2
                  go_roundw
                  case rel =>
                    have hg2 := HGE.out
                    refine ⟨k + 1, by omega, by go_num, (hbs.setCell (by simp) _).setCell (by simp) _, (r0.setOther (by simp) _).setOther (by simp) _, two_set r1 (16 - 2 * (y.length - k)) (16 - 2 * (y.length - k) + 1) _ _ (by omega) (by omega) (fun n hn => ?_), ownsRow_setCell_below (ownsRow_setCell_below ry' (by simp; omega) _) (by simp; omega) _⟩
                    rw [back_step x y k n hlt hn8 hn, HGK.out]
                    have e1 : ((gk / 256 : Nat) : Int) = (gk : Int) / 256 := by omega
                    have e2 : ((gk % 256 : Nat) : Int) = (gk : Int) % 256 := by omega
                    rw [e1, e2]
                  case measure => simp [intOf]; omega
                · obtain rfl : k = y.length := by omega
                  go_wp2_with (first | (refine ld25 rfl _ rfl _ rfl _ _ r1 ?_) | (refine st25 rfl _ _ rfl _ rfl _ _ _ _ rfl r0 ?_))
                  exact ret25 rfl rfl rfl (r0.row _) ⟨_, by rw [HOK1.out]; rfl, fun _ => HVALS.out.symm, hbs.row (Nat.le_refl _) _⟩
end Go.Proofs.YtodbjjlgnnjmoaaDoor
