/- The contract of addr.Parse. -/
import Derived.Test.YtodbjjlgnnjmoaaDoorAg
namespace Go.Proofs.YtodbjjlgnnjmoaaDoor
open Go.RowKit
/-- Does a colon stand in the text? -/
def colon (l : List UInt8) : Bool := decide (0 ≤ Lib.indexByte l 58)
/-- Is the text an address? Its version, its bytes, the error. -/
def pOK (l : List UInt8) : Bool := if colon l then okSix l else okFour l
def pV (l : List UInt8) : Int := if pOK l then (if colon l then 6 else 4) else 0
def pB (l : List UInt8) : Nat → Int := if pOK l then (if colon l then valSix l else valFour l) else z0
def pE (l : List UInt8) : Int := if pOK l then 0 else 30
def ParseR (s : ByteArray) (w : World) (e : Ending) (w' : World) : Prop :=
  e = .returned (.tuple #[adr (pV s.data.toList) (pB s.data.toList), .int .i64 (pE s.data.toList)]) ∧ Below w.heap.size w w'
set_option maxRecDepth 100000 in
theorem parse_any (s : ByteArray) (w : World) (m : Int) (hs : s.size < 4294967281) (hm : w.cell? ⟨0, 0, none⟩ = some (.int .i64 m)) :
    Calls Tryd.prog 9 #[.string s] w (ParseR s w) := by
  have h0 := block_lt_of_cell hm
  have HM : Hid ((w.alloc (adrO 0 z0)).cell? ⟨0, 0, none⟩ = some (.int .i64 m)) := (((Below.rfl' w).al _).cell h0).trans hm
  have g0 := HB.new w (ac 0 z0) 25
  clear hm
  have hb0 := (Below.rfl' w).al (adrO 0 z0)
  cases hcol : colon s.data.toList
  · have hcol' : decide (0 ≤ Lib.indexByte s.data.toList 58) = false := hcol
    have HC := Lib.hid hcol
    have HD := Lib.hid hcol'
    clear hcol hcol'
    go_enter Tryd.func9, Tryd.ntmps9
    go_wp2_with (refine al25 rfl rfl ?_)
    refine (Tryd.strings_Contains_one s 58 _).mono ?_
    rintro e w1 ⟨rfl, rfl⟩
    rw [HD.out]
    go_wp2_with fail
    refine (four_any s _ m hs HM.out).mono ?_
    rintro e w1 ⟨b, rfl, hbv, hb1⟩
    have q0 := g0.below hb1 g0.lt
    have hb := hb0.con hb1
    have HV := Lib.hid hbv
    clear hb0 hb1 hbv g0
    cases hok : okFour s.data.toList
    · have HOK := Lib.hid hok
      clear hok
      go_wp2_with (first | (refine al25 rfl rfl ?_) | (refine bu25z rfl rfl ?_) | (refine st25 rfl _ _ rfl _ rfl _ _ _ _ rfl (HB.new _ _ _) ?_; rw [World.setRow_alloc_new]) | (refine st25 rfl _ _ rfl _ rfl _ _ _ _ rfl (q0.alloc _) ?_))
      have hp : pOK s.data.toList = false := by unfold pOK; rw [HC.out, HOK.out]; rfl
      refine ret25 rfl rfl rfl ((q0.alloc _).row _) ⟨?_, (hb.al _).row (Nat.le_refl _) _⟩
      unfold pV pB pE
      rw [hp]
      rfl
    · have HOK := Lib.hid hok
      clear hok
      obtain rfl := HV.out HOK.out
      go_wp2_with (first | (refine al25 rfl rfl ?_) | (refine ld25 rfl _ rfl _ rfl _ _ (HB.new _ _ _) ?_) | (refine st25 rfl _ _ rfl _ rfl _ _ _ _ rfl (HB.new _ _ _) ?_; rw [World.setRow_alloc_new]) | (refine st25 rfl _ _ rfl _ rfl _ _ _ _ rfl (q0.alloc _) ?_))
      have hp : pOK s.data.toList = true := by unfold pOK; rw [HC.out, HOK.out]; rfl
      refine ret25 rfl rfl rfl ((q0.alloc _).row _) ⟨?_, (hb.al _).row (Nat.le_refl _) _⟩
      unfold pV pB pE
      rw [hp, HC.out]
      rfl
  · have hcol' : decide (0 ≤ Lib.indexByte s.data.toList 58) = true := hcol
    have HC := Lib.hid hcol
    have HD := Lib.hid hcol'
    clear hcol hcol'
    go_enter Tryd.func9, Tryd.ntmps9
    go_wp2_with (refine al25 rfl rfl ?_)
    refine (Tryd.strings_Contains_one s 58 _).mono ?_
    rintro e w1 ⟨rfl, rfl⟩
    rw [HD.out]
    go_wp2_with fail
    refine (six_any s _ m hs HM.out).mono ?_
    rintro e w1 ⟨b, rfl, hbv, hb1⟩
    have q0 := g0.below hb1 g0.lt
    have hb := hb0.con hb1
    have HV := Lib.hid hbv
    clear hb0 hb1 hbv g0
    cases hok : okSix s.data.toList
    · have HOK := Lib.hid hok
      clear hok
      go_wp2_with (first | (refine al25 rfl rfl ?_) | (refine bu25z rfl rfl ?_) | (refine st25 rfl _ _ rfl _ rfl _ _ _ _ rfl (HB.new _ _ _) ?_; rw [World.setRow_alloc_new]) | (refine st25 rfl _ _ rfl _ rfl _ _ _ _ rfl (q0.alloc _) ?_))
      have hp : pOK s.data.toList = false := by unfold pOK; rw [HC.out, HOK.out]; rfl
      refine ret25 rfl rfl rfl ((q0.alloc _).row _) ⟨?_, (hb.al _).row (Nat.le_refl _) _⟩
      unfold pV pB pE
      rw [hp]
      rfl
    · have HOK := Lib.hid hok
      clear hok
      obtain rfl := HV.out HOK.out
      go_wp2_with (first | (refine al25 rfl rfl ?_) | (refine ld25 rfl _ rfl _ rfl _ _ (HB.new _ _ _) ?_) | (refine st25 rfl _ _ rfl _ rfl _ _ _ _ rfl (HB.new _ _ _) ?_; rw [World.setRow_alloc_new]) | (refine st25 rfl _ _ rfl _ rfl _ _ _ _ rfl (q0.alloc _) ?_))
      have hp : pOK s.data.toList = true := by unfold pOK; rw [HC.out, HOK.out]; rfl
      refine ret25 rfl rfl rfl ((q0.alloc _).row _) ⟨?_, (hb.al _).row (Nat.le_refl _) _⟩
      unfold pV pB pE
      rw [hp, HC.out]
      rfl
end Go.Proofs.YtodbjjlgnnjmoaaDoor
