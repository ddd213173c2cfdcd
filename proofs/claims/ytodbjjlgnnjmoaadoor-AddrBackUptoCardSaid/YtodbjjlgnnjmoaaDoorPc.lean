/- Plain laws of the bytes of an address of version 6. -/
import Derived.Test.YtodbjjlgnnjmoaaDoorPb
namespace Go.Proofs.YtodbjjlgnnjmoaaDoor
open Go.Lib
/-- Byte number i of groups. -/
def byte6 (x : List Nat) (i : Nat) : Int := if i % 2 = 0 then ((x.getD (i / 2) 0 / 256 : Nat) : Int) else ((x.getD (i / 2) 0 % 256 : Nat) : Int)
/-- The bytes behind k groups of the front. -/
def frontB (x : List Nat) (k : Nat) : Nat → Int := fun i => if i < 2 * k then byte6 x i else 0
/-- The bytes behind k groups of the back. -/
def backB (x y : List Nat) (k : Nat) : Nat → Int := fun i =>
  if i < 2 * x.length then byte6 x i else if 16 - 2 * y.length ≤ i ∧ i < 16 - 2 * y.length + 2 * k then byte6 y (i - (16 - 2 * y.length)) else 0
/-- The text's two sides, and whether there is a gap. -/
def frS (s : List UInt8) : List UInt8 := (cut s [58, 58]).1
def bkS (s : List UInt8) : List UInt8 := (cut s [58, 58]).2.1
def gapS (s : List UInt8) : Bool := (cut s [58, 58]).2.2
def nS (s : List UInt8) : Nat := (valG (frS s)).length + (valG (bkS s)).length
/-- Is it an address of version 6? -/
def okSix (s : List UInt8) : Bool := okG (frS s) && (okG (bkS s) && (if gapS s then decide (nS s ≤ 7) else decide (nS s = 8)))
def valSix (s : List UInt8) : Nat → Int := backB (valG (frS s)) (valG (bkS s)) (valG (bkS s)).length
theorem okSix_le {s : List UInt8} (h : okSix s = true) : nS s ≤ 8 := by
  unfold okSix at h
  simp only [Bool.and_eq_true] at h
  have := h.2.2
  split at this
  · have := of_decide_eq_true this; omega
  · have := of_decide_eq_true this; omega
theorem front_step (x : List Nat) (k i : Nat) (hi : i < 16) :
    frontB x (k + 1) i = if i = 2 * k + 1 then ((x.getD k 0 % 256 : Nat) : Int) else if i = 2 * k then ((x.getD k 0 / 256 : Nat) : Int) else frontB x k i := by
  unfold frontB
  by_cases e1 : i = 2 * k + 1
  · subst e1
    rw [if_pos rfl, if_pos (by omega)]
    unfold byte6
    rw [if_neg (by omega), show (2 * k + 1) / 2 = k by omega]
  · rw [if_neg e1]
    by_cases e2 : i = 2 * k
    · subst e2
      rw [if_pos rfl, if_pos (by omega)]
      unfold byte6
      rw [if_pos (by omega), show (2 * k) / 2 = k by omega]
    · rw [if_neg e2]
      by_cases l : i < 2 * k
      · rw [if_pos l, if_pos (by omega)]
      · rw [if_neg l, if_neg (by omega)]
theorem front_end (x y : List Nat) : frontB x x.length = backB x y 0 := by
  funext i
  unfold frontB backB
  by_cases l : i < 2 * x.length
  · rw [if_pos l, if_pos l]
  · rw [if_neg l, if_neg l, if_neg (by omega)]
theorem back_step (x y : List Nat) (k i : Nat) (hk : k < y.length) (hn : x.length + y.length ≤ 8) (hi : i < 16) :
    backB x y (k + 1) i = if i = 16 - 2 * (y.length - k) + 1 then ((y.getD k 0 % 256 : Nat) : Int) else if i = 16 - 2 * (y.length - k) then ((y.getD k 0 / 256 : Nat) : Int) else backB x y k i := by
  unfold backB
  by_cases e1 : i = 16 - 2 * (y.length - k) + 1
  · rw [if_pos e1, if_neg (by omega), if_pos (by omega)]
    unfold byte6
    rw [if_neg (by omega), show (i - (16 - 2 * y.length)) / 2 = k by omega]
  · rw [if_neg e1]
    by_cases e2 : i = 16 - 2 * (y.length - k)
    · rw [if_pos e2, if_neg (by omega), if_pos (by omega)]
      unfold byte6
      rw [if_pos (by omega), show (i - (16 - 2 * y.length)) / 2 = k by omega]
    · rw [if_neg e2]
      by_cases l : i < 2 * x.length
      · rw [if_pos l, if_pos l]
      · rw [if_neg l, if_neg l]
        by_cases g : 16 - 2 * y.length ≤ i ∧ i < 16 - 2 * y.length + 2 * k
        · rw [if_pos g, if_pos (by omega)]
        · rw [if_neg g, if_neg (by omega)]
end Go.Proofs.YtodbjjlgnnjmoaaDoor
