/- Addresses as arguments: opened and shut. -/
import Derived.Test.YtodbjjlgnnjmoaaDoorAn
import Derived.Test.YtodbjjlgnnjmoaaDoorCards
import Derived.Test.YtodbjjlgnnjmoaaDoorTie
import Derived.ProofKit
import Derived.OpenShut
import Derived.Deep.DeepHandedRow
import Derived.Lib.LaidTab
import Derived.Lib.SmallJoins
namespace Go.Proofs.YtodbjjlgnnjmoaaDoor
open Go.ChangeShapes Go.WideShapes Go.ChangeAt Go.RowKit
theorem cells25 : Tryd.prog.cellsOf 25 = 17 := by kernel_rfl
theorem cells23 : Tryd.prog.cellsOf 23 = 16 := by kernel_rfl
theorem cells3 : Tryd.prog.cellsOf 3 = 1 := by kernel_rfl
theorem cells5 : Tryd.prog.cellsOf 5 = 1 := by kernel_rfl
/-- An address, as data. -/
def adrD (H : Type) (x : Int) (b : Nat → Int) : DataW H := .agg [.lit (.int .i64 x), .agg ((List.range 16).map fun i => .lit (.int .u8 (b i)))]
/-- A cell's number. -/
def numOf : Value → Int
  | .int _ n => n
  | _ => 0
theorem wf_u8 {n : Int} (h : (Lit.int .u8 n).wf = true) : 0 ≤ n ∧ n ≤ 255 := by
  simp [Lit.wf, IntKind.min, IntKind.max, IntKind.signed, IntKind.bits] at h
  omega
theorem u8_wf {n : Int} (h : 0 ≤ n ∧ n ≤ 255) : (Lit.int .u8 n).wf = true := by
  simp [Lit.wf, IntKind.min, IntKind.max, IntKind.signed, IntKind.bits]
  omega
section
variable {H : Type} {enc : TypeId × Value → H} {w : World} {base : Nat} {spare : Nat → Bool} {held : Bool}
set_option maxRecDepth 100000 in
theorem open_adr {r : Reach} {b0 : Nat} {v : Value} {d : DataW H} {p : List MemPlace} (hv : Value.okWide Tryd.prog w r b0 25 v) (h : DataW.Trod enc Tryd.prog w base spare held 25 v d p) :
    ∃ x b, v = adr x b ∧ (∀ i, 0 ≤ b i ∧ b i ≤ 255) ∧ d = adrD H x b ∧ p = [] ∧ (Lit.int .i64 x).wf = true := by
  obtain ⟨cs, rfl, hsz⟩ := okWide_struct Tryd.underlying25 hv
  rw [cells25] at hsz
  obtain ⟨fuel, hf⟩ := h
  obtain ⟨y0, y1, n, hx, _, h0, h1⟩ := trod_struct2 Tryd.underlying25 hf
  simp only [Prod.mk.injEq] at hx
  simp only [Value.cells] at h0 h1
  rw [cells3] at h0
  rw [cells23] at h1
  obtain ⟨x, hc0, rfl, hwx⟩ := DataW.trod_int Tryd.underlying3 h0
  obtain ⟨xs, m, _, rfl, _, hlen, hel⟩ := DataW.trod_array Tryd.underlying23 h1
  rw [cells5] at hel
  have he : ∀ i, i < 16 → ∃ k, cs[1 + i]? = some (.int .u8 k) ∧ xs[i]? = some (.lit (.int .u8 k), []) ∧ (0 ≤ k ∧ k ≤ 255) := fun i hi => by
    have hi' := hel i hi
    obtain ⟨z, hz⟩ : ∃ z, xs[i]? = some z := ⟨xs[i]'(by omega), List.getElem?_eq_getElem (by omega)⟩
    rw [hz] at hi'
    obtain ⟨k, hk, rfl, hwk⟩ := DataW.trod_int Tryd.underlying5 hi'
    refine ⟨k, ?_, hz, wf_u8 hwk⟩
    have h2 := congrArg (·[0]?) hk
    simp only [List.getElem?_take, List.getElem?_drop, List.getElem?_cons_zero] at h2
    rw [if_pos (by omega), if_pos (by omega)] at h2
    rw [← h2, Array.getElem?_toList]
    congr 1
    omega
  have hb : ∀ i, i < 16 → cs[1 + i]? = some (.int .u8 (numOf (cs.getD (1 + i) undef))) ∧ xs[i]? = some (.lit (.int .u8 (numOf (cs.getD (1 + i) undef))), []) ∧ (0 ≤ numOf (cs.getD (1 + i) undef) ∧ numOf (cs.getD (1 + i) undef) ≤ 255) := fun i hi => by
    obtain ⟨k, h1, h2, h3⟩ := he i hi
    have : numOf (cs.getD (1 + i) undef) = k := by
      rw [Array.getD_eq_getD_getElem?, h1]
      rfl
    rw [this]
    exact ⟨h1, h2, h3⟩
  refine ⟨x, fun i => if i < 16 then numOf (cs.getD (1 + i) undef) else 0, ?_, ?_, ?_, ?_, hwx⟩
  · congr 1
    apply Array.ext
    · rw [hsz, ac_size]
    · intro i h1 h2
      have hg : cs[i]? = (ac x (fun i => if i < 16 then numOf (cs.getD (1 + i) undef) else 0))[i]? := by
        cases i with
        | zero =>
          rw [ac_v]
          have h2 := congrArg (·[0]?) hc0
          simp only [List.getElem?_take, List.getElem?_drop, List.getElem?_cons_zero] at h2
          rw [if_pos (by omega)] at h2
          rw [← h2, Array.getElem?_toList]
        | succ i =>
          have hi : i < 16 := by omega
          rw [show i + 1 = 1 + i by omega, ac_b _ _ i hi, (hb i hi).1]
          simp only [if_pos hi]
      rw [Array.getElem?_eq_getElem h1, Array.getElem?_eq_getElem h2] at hg
      exact Option.some.inj hg
  · intro i
    simp only
    split
    · exact (hb i ‹_›).2.2
    · omega
  · rw [hx.1]
    have hl : xs.map (·.1) = (List.range 16).map fun i => .lit (.int .u8 (if i < 16 then numOf (cs.getD (1 + i) undef) else 0)) := by
      apply List.ext_getElem?
      intro i
      rw [List.getElem?_map, List.getElem?_map]
      by_cases hi : i < 16
      · rw [(hb i hi).2.1, List.getElem?_range hi]
        simp only [Option.map_some, if_pos hi]
      · rw [List.getElem?_eq_none (by omega), List.getElem?_eq_none (by simp; omega)]
        rfl
    unfold adrD
    simp only [hl]
  · rw [hx.2]
    have : xs.flatMap (·.2) = [] := by
      rw [List.flatMap_eq_nil_iff]
      intro z hz
      obtain ⟨i, hi⟩ := List.getElem?_of_mem hz
      have hlt : i < 16 := by
        have := (List.getElem?_eq_some_iff.1 hi).1
        omega
      rw [(hb i hlt).2.1] at hi
      obtain rfl := Option.some.inj hi
      rfl
    rw [this]
    rfl
set_option maxRecDepth 100000 in
theorem shut_adr {x : Int} {b : Nat → Int} (hx : (Lit.int .i64 x).wf = true) (hb : ∀ i, 0 ≤ b i ∧ b i ≤ 255) : DataW.Trod enc Tryd.prog w base spare held 25 (adr x b) (adrD H x b) [] := by
  have h0 : DataW.trod enc Tryd.prog w base spare held 2 3 [.int .i64 x] = some (.lit (.int .i64 x), []) := by simp [DataW.trod, Tryd.underlying3, hx]
  have hw : ∀ i, (Lit.int .u8 (b i)).wf = true := fun i => u8_wf (hb i)
  have r16 : List.range 16 = [0, 1, 2, 3, 4, 5, 6, 7, 8, 9, 10, 11, 12, 13, 14, 15] := rfl
  have h1 : DataW.trod enc Tryd.prog w base spare held 2 23 (bc b).toList = some (.agg ((List.range 16).map fun i => .lit (.int .u8 (b i))), []) := by
    rw [r16]
    simp [DataW.trod, Tryd.underlying23, Tryd.underlying5, cells23, cells5, r16, hw, bc]
  have hs := trod_struct2_mk (enc := enc) (w := w) (base := base) (spare := spare) (held := held) (n := 2) (cs := (ac x b).toList) Tryd.underlying25 (by rw [cells25]; rfl) (y0 := (.lit (.int .i64 x), [])) (y1 := (.agg ((List.range 16).map fun i => .lit (.int .u8 (b i))), []))
    (by rw [← h0, cells3]; rfl) (by rw [← h1, cells23]; rfl)
  exact ⟨3, hs⟩
end
end Go.Proofs.YtodbjjlgnnjmoaaDoor
