/- What the rows' lists give; a world for the witnesses. -/
import Derived.Test.YtodbjjlgnnjmoaaDoorAo
import Derived.Lay
import Derived.LaidSub
namespace Go.Proofs.YtodbjjlgnnjmoaaDoor
open Go.ChangeShapes Go.WideShapes Go.ChangeAt Go.RowKit
theorem own : ownKnob Tryd.prog.godebug = none := by kernel_rfl
/-- The list of all five rows. -/
def laidL : List (String × DataW Unit) := Rows.addrOrderRow.laid
theorem gPowT : (Tryd.prog.globals[1]?).map (·.type) = some 93 := by kernel_rfl
theorem gDeb : Tryd.prog.globalNamed "math/bits.deBruijn64tab" = some 3 := by kernel_rfl
theorem gDebT : (Tryd.prog.globals[3]?).map (·.type) = some 105 := by kernel_rfl
theorem cells93 : Tryd.prog.cellsOf 93 = 20 := by kernel_rfl
theorem cells50 : Tryd.prog.cellsOf 50 = 1 := by kernel_rfl
theorem cells105 : Tryd.prog.cellsOf 105 = 64 := by kernel_rfl
theorem und93 : Tryd.prog.underlying 93 = some (.array 20 50) := by kernel_rfl
theorem und50 : Tryd.prog.underlying 50 = some (.int .u64) := by kernel_rfl
theorem und105 : Tryd.prog.underlying 105 = some (.array 64 5) := by kernel_rfl
set_option maxRecDepth 100000 in
theorem maxLen_of {W : World} (h : W.ShapedOpen Tryd.prog) : ∃ m, W.cell? ⟨0, 0, none⟩ = some (.int .i64 m) := by
  obtain ⟨cs, hh, hs, hr⟩ := h.1 0 #[.int .i64 0] 3 (by decide +kernel) (by kernel_rfl)
  obtain ⟨ts, hts, _, hall⟩ := hr (by kernel_rfl)
  rw [show Tryd.prog.cellTypes Tryd.prog.depth 3 = some [3] by kernel_rfl] at hts
  cases hts
  have h1 : 0 < cs.size := by rw [hs]; decide
  obtain ⟨u, hu', hok⟩ := hall 0 cs[0] (by rw [Array.getElem?_eq_getElem h1])
  obtain rfl : u = 3 := (Option.some.inj hu').symm
  have hcell : W.cell? ⟨0, 0, none⟩ = some cs[0] := by
    unfold World.cell?
    rw [hh]
    simp [Array.getElem?_eq_getElem h1]
  rw [hcell]
  generalize cs[0] = c at hok
  unfold Cell.ok at hok
  rw [Tryd.underlying3] at hok
  cases c <;> first | (obtain ⟨rfl, _⟩ := hok; exact ⟨_, rfl⟩) | cases hok
/-- The table of places of the lowest bit. -/
def deTab : List Int := [0, 1, 56, 2, 57, 49, 28, 3, 61, 58, 42, 50, 38, 29, 17, 4, 62, 47, 59, 36, 45, 43, 51, 22, 53, 39, 33, 30, 24, 18, 12, 5, 63, 55, 48, 27, 60, 41, 37, 16, 46, 35, 44, 21, 52, 32, 23, 11, 54, 26, 40, 15, 34, 20, 31, 10, 25, 14, 19, 9, 13, 8, 7, 6]
theorem env_of {W : World} (hL : laidMetH Tryd.prog laidL W) (h : W.ShapedOpen Tryd.prog) : ∃ m, Env m W := by
  obtain ⟨m, hm⟩ := maxLen_of h
  have hL' : laidMet Tryd.prog laidL W := hL
  have h1 := hL'.filter (fun x => x.1 == "internal/strconv.uint64pow10")
  have e1 : laidL.filter (fun x => x.1 == "internal/strconv.uint64pow10") = [("internal/strconv.uint64pow10", Lib.tabData .u64 Lib.pow10Tab)] := by kernel_rfl
  rw [e1] at h1
  have t1 := Lib.tabIs_of_head (rest := []) gPow gPowT und93 und50 cells50 cells93 h1
  have h3 := hL'.filter (fun x => x.1 == "math/bits.deBruijn64tab")
  obtain ⟨zs, hz, hz4, hzl⟩ : ∃ zs : List Int, laidL.filter (fun x => x.1 == "math/bits.deBruijn64tab") = [("math/bits.deBruijn64tab", Lib.tabData .u8 zs)] ∧ zs.getD 15 0 = 4 ∧ 15 < zs.length :=
    ⟨deTab, by kernel_rfl, by decide, by decide⟩
  rw [hz] at h3
  have t3 := Lib.tabIs_of_head (rest := []) gDeb gDebT und105 Tryd.underlying5 cells5 cells105 h3
  have c3 := t3.cell gDeb 15 hzl
  rw [hz4] at c3
  exact ⟨m, hm, c3, t1⟩
/-- A world for the witnesses: the settled one, the listed variables holding what the list says. -/
noncomputable def laidWorld (os : Os) : World := (World.holding Tryd.prog os ⟨#[], #[], []⟩).layVars Tryd.prog laidL
set_option maxRecDepth 100000 in
theorem laid_met (os : Os) (args : Array Value) : laidMet Tryd.prog laidL ((laidWorld os).forCall (fun _ _ => 0) ⟨#[], args, []⟩).memory :=
  laidMet_of_run' 8 (by kernel_rfl) (by kernel_rfl)
end Go.Proofs.YtodbjjlgnnjmoaaDoor
