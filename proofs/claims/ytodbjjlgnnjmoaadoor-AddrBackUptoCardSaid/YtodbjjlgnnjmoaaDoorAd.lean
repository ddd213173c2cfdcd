/- Contracts of bytes.Compare at two rows of an address, and of Less. -/
import Derived.Test.YtodbjjlgnnjmoaaDoorAc
import Derived.Lib.BytesEntry
import Derived.Deep.QuietTactic
import Derived.BigQuiet
namespace Go.Proofs.YtodbjjlgnnjmoaaDoor
open Go.RowKit
/-- The sixteen bytes as a byte array. -/
def ba (b : Nat → Int) : ByteArray := ⟨(Lib.bytesOf ((List.range 16).map b)).toArray⟩
theorem HB.drN {w : World} {g : Nat} {cs : Array Value} {t : TypeId} (h : HB w g cs t) (n : Nat) : HB (w.drewN n) g cs t := h
theorem run_bytes {w : World} {g : Nat} {v : Int} {b : Nat → Int} (h : HB w g (ac v b) 25) : (Extern.Bytes.bytesOf (.slice (some ⟨g, 1, none⟩) 16 16)).run Tryd.prog w = .ok (ba b) w := by
  have hl := Lib.run_loadBytesX (P := Tryd.prog) w ((List.range 16).map b) ⟨g, 1, none⟩ .empty (fun j x hx => by
    have hlt : j < 16 := by
      have := (List.getElem?_eq_some_iff.1 hx).1
      simpa using this
    have hx' : b j = x := by
      rw [List.getElem?_map, List.getElem?_range hlt] at hx
      simpa using hx
    have hadd : (⟨g, 1, none⟩ : Addr).add j = ⟨g, 1 + j, none⟩ := by
      unfold Addr.add
      split
      · rename_i e; subst e; rfl
      · rfl
    rw [hadd, h.adrB j hlt, hx'])
  simp only [List.length_map, List.length_range] at hl
  unfold Extern.Bytes.bytesOf
  rw [hl]
  congr 1
/-- How two rows of sixteen bytes compare. -/
def cmpF (b b' : Nat → Int) : Int := Extern.BytealgCompare.cmp (ba b) (ba b')
theorem compare_any {w : World} {g g' : Nat} {v v' : Int} {b b' : Nat → Int} (h : HB w g (ac v b) 25) (h' : HB w g' (ac v' b') 25) :
    Calls Tryd.prog 30 #[.slice (some ⟨g, 1, none⟩) 16 16, .slice (some ⟨g', 1, none⟩) 16 16] w fun e w' => e = .returned (.int .i64 (cmpF b b')) ∧ w = w' := by
  go_enter Tryd.func30, Tryd.ntmps30
  go_wp2
  rw [run_callFunc_extern Tryd.func44 (by kernel_rfl) (by kernel_rfl) (by kernel_rfl) (e := Extern.BytealgCompare.compare) (by kernel_rfl)]
  rw [show Extern.BytealgCompare.compare #[.slice (some ⟨g, 1, none⟩) 16 16, .slice (some ⟨g', 1, none⟩) 16 16] = (do pure (goInt (Extern.BytealgCompare.cmp (← Extern.Bytes.bytesOf (.slice (some ⟨g, 1, none⟩) 16 16)) (← Extern.Bytes.bytesOf (.slice (some ⟨g', 1, none⟩) 16 16)))) : Sem Value) from rfl]
  simp only [Sem.run_bind, run_bytes h, run_bytes h', Result.andThen_ok, Sem.run_pure]
  rw [Oper.upon_value]
  go_wp2
  go_ret
  exact ⟨rfl, rfl⟩
def lessF (v : Int) (b : Nat → Int) (v' : Int) (b' : Nat → Int) : Bool := if v = v' then decide (cmpF b b' < 0) else decide (v < v')
theorem less_ne (v : Int) (b : Nat → Int) (v' : Int) (b' : Nat → Int) (hne : (v != v') = true) (w : World) :
    Calls Tryd.prog 14 #[adr v b, adr v' b'] w fun e w' => e = .returned (.bool (decide (v < v'))) ∧ Below w.heap.size w w' := by
  have h0 := ((HB.new w (ac v b) 25).alloc (adrO v' b')).adrV
  have h1 := (HB.newAt (w := w.alloc (adrO v b)) (g := w.heap.size + 1) (by simp) (ac v' b') 25).adrV
  go_enter Tryd.func14, Tryd.ntmps14
  go_wp2
  go_ret
  exact ⟨rfl, ((Below.rfl' _).al _).al _⟩
theorem less_eq (v : Int) (b b' : Nat → Int) (w : World) :
    Calls Tryd.prog 14 #[adr v b, adr v b'] w fun e w' => e = .returned (.bool (decide (cmpF b b' < 0))) ∧ Below w.heap.size w w' := by
  have g0 := (HB.new w (ac v b) 25).alloc (adrO v b')
  have g1 := HB.newAt (w := w.alloc (adrO v b)) (g := w.heap.size + 1) (by simp) (ac v b') 25
  have h0 := g0.adrV
  have h1 := g1.adrV
  go_enter Tryd.func14, Tryd.ntmps14
  go_wp2
  go_quiet ((go_at_call 30; exact Calls.quiet_of_same ((compare_any (g0.drN _) (g1.drN _)).mono fun e w' h => ⟨h.1, h.2.symm⟩)))
  go_wp2
  go_ret
  exact ⟨rfl, (((Below.rfl' _).al _).al _).drN _⟩
theorem less_any (v : Int) (b : Nat → Int) (v' : Int) (b' : Nat → Int) (w : World) :
    Calls Tryd.prog 14 #[adr v b, adr v' b'] w fun e w' => e = .returned (.bool (lessF v b v' b')) ∧ Below w.heap.size w w' := by
  unfold lessF
  by_cases h : v = v'
  · subst h
    rw [if_pos rfl]
    exact less_eq v b b' w
  · rw [if_neg h]
    exact less_ne v b v' b' (by simpa using h) w
end Go.Proofs.YtodbjjlgnnjmoaaDoor
