/- The law's function hex: a group with at least so many digits. -/
import Derived.Test.YtodbjjlgnnjmoaaDoorAk
import Derived.Laws.BytesString
import Derived.Maps.AppendAt
namespace Go.Proofs.YtodbjjlgnnjmoaaDoor
open Go.RowKit
theorem conv1 (W : World) (x : Int) : (convert 53 9 (.slice (some ⟨W.heap.size, 0, none⟩) 1 1)).run Tryd.prog (W.alloc (.cells #[.int .u8 x] 5)) = .ok (.string ⟨[UInt8.ofNat x.toNat].toArray⟩) (W.alloc (.cells #[.int .u8 x] 5)) := by
  rw [run_convert_bytes_string _ 53 9 5 _ 1 1 Tryd.underlying53 Tryd.underlying5 Tryd.underlying9]
  rw [run_bytesToString _ _ 1 1 [x] ?_]
  · rfl
  · exact run_loadCells_list _ ⟨W.heap.size, 0, none⟩ [.int .u8 x] (cell_one_new W (.int .u8 x) 5)
/-- A digit, in upper or lower case. -/
def dgU (up : Bool) (d : Nat) : UInt8 := if d ≤ 9 then UInt8.ofNat (48 + d) else if up then UInt8.ofNat (55 + d) else UInt8.ofNat (87 + d)
def hexR (up : Bool) (least : Nat) : Nat → Nat → List UInt8 → List UInt8
  | 0, _, s => s
  | f + 1, n, s => if 0 < n ∨ s.length < least then hexR up least f (n / 16) (dgU up (n % 16) :: s) else s
def hexF (n least : Nat) (up : Bool) : List UInt8 := hexR up least 5 n []
def strSz : Value → Nat
  | .string b => b.size
  | _ => 0
/-- How far the loop is. -/
def hexAt (j n : Nat) : Prop := (j = 0 ∧ n < 65536) ∨ (j = 1 ∧ n < 4096) ∨ (j = 2 ∧ n < 256) ∨ (j = 3 ∧ n < 16) ∨ (j = 4 ∧ n = 0)
set_option maxRecDepth 100000 in
theorem hex_any (n0 least : Nat) (up : Bool) (hn0 : n0 < 65536) (hl0 : least ≤ 4) (w : World) :
    Calls Tryd.prog 29 #[.int .i64 n0, .int .i64 least, .bool up] w fun e w' => e = .returned (.string ⟨(hexF n0 least up).toArray⟩) ∧ Below w.heap.size w w' := by
  go_enter Tryd.func29, Tryd.ntmps29
  go_wp2
  go_loopw [0, 7] (fun n v wr => ∃ (k : Nat) (s : List UInt8), n = .int .i64 k ∧ v = .string ⟨s.toArray⟩ ∧ Below w.heap.size w wr ∧ hexAt s.length k ∧ hexR up least (5 - s.length) k s = hexF n0 least up) (fun _ v _ => 5 - strSz v)
  case atStart => exact ⟨n0, [], rfl, rfl, Below.rfl' _, .inl ⟨rfl, hn0⟩, rfl⟩
  case round =>
    obtain ⟨k, s, rfl, rfl, hb, hat, hr⟩ := hrel
    have HR := Lib.hid hr
    have HAT := Lib.hid hat
    have hk : k < 65536 := by unfold hexAt at hat; omega
    have hs : s.length ≤ 4 := by unfold hexAt at hat; omega
    clear hr hat
    by_cases hc : 0 < k ∨ s.length < least
    · have HC := Lib.hid hc
      clear hc
      obtain ⟨d, hd⟩ : ∃ d, k % 16 = d := ⟨_, rfl⟩
      have hd16 : d ≤ 15 := by omega
      have hdi : (k : Int) % 16 = d := by omega
      have HST : Hid (hexAt (dgU up d :: s).length (k / 16) ∧ hexR up least (5 - (dgU up d :: s).length) (k / 16) (dgU up d :: s) = hexF n0 least up ∧ s.length < 4) := by
        have h1 := HAT.out
        have h2 := HR.out
        have hs4 : s.length < 4 := by
          have := HC.out
          unfold hexAt at h1
          omega
        refine ⟨?_, ?_, hs4⟩
        · unfold hexAt at h1 ⊢
          rw [List.length_cons]
          omega
        · rw [show 5 - s.length = (5 - (dgU up d :: s).length) + 1 by rw [List.length_cons]; omega, hexR, if_pos HC.out, hd] at h2
          exact h2
      have e16 : ((k / 16 : Nat) : Int) = (k : Int) / 16 := by omega
      have E16 := Lib.hid e16
      have hgd : (0 < k ∧ 9 < d) ∨ (0 < k ∧ ¬ 9 < d) ∨ (¬ 0 < k ∧ s.length < least ∧ ¬ 9 < d) := by have := HC.out; omega
      clear hd e16
      have hcv := conv1
      have had : ∀ (c : UInt8) (W : World), (Op.stringOp .add ⟨[c].toArray⟩ ⟨s.toArray⟩).run Tryd.prog W = .ok (.string ⟨(c :: s).toArray⟩) W := fun c W => run_string_add_lists W [c] s (by simp) (by omega)
      have HLO : Hid (¬ 9 < d → ∀ up, (48 + UInt8.ofNat d) = dgU up d) := fun h up => by
        have key : ∀ d : Fin 16, ¬ 9 < d.val → ∀ up, (48 + UInt8.ofNat d.val) = dgU up d.val := by decide
        exact key ⟨d, by omega⟩ h up
      have HUP : Hid (9 < d → UInt8.ofNat (65 + d - 10) = dgU true d) := fun h => by
        have key : ∀ d : Fin 16, 9 < d.val → UInt8.ofNat (65 + d.val - 10) = dgU true d.val := by decide
        exact key ⟨d, by omega⟩ h
      have HDN : Hid (9 < d → UInt8.ofNat (97 + d - 10) = dgU false d) := fun h => by
        have key : ∀ d : Fin 16, 9 < d.val → UInt8.ofNat (97 + d.val - 10) = dgU false d.val := by decide
        exact key ⟨d, by omega⟩ h
      cases up
      all_goals
        rcases hgd with ⟨h1, h9⟩ | ⟨h1, h9⟩ | ⟨h1, h2, h9⟩
        all_goals
          have H9 := Lib.hid h9
          go_wp2
          go_roundw
          case rel =>
            refine ⟨k / 16, dgU _ d :: s, by rw [E16.out], congrArg (fun c => Value.string ⟨(c :: s).toArray⟩) ?_, hb.al _, HST.out.1, HST.out.2.1⟩
            first | exact HUP.out H9.out | exact HDN.out H9.out | exact HLO.out H9.out _
          case measure =>
            have := HST.out.2.2
            simp [strSz, ByteArray.size]
            omega
    · have HC := Lib.hid hc
      clear hc
      have h1 : k = 0 := by have := HC.out; omega
      have h2 : least ≤ s.length := by have := HC.out; omega
      subst h1
      go_wp2
      go_ret
      refine ⟨?_, hb⟩
      have h := HR.out
      rw [show 5 - s.length = (4 - s.length) + 1 by omega, hexR, if_neg HC.out] at h
      rw [h]
      rfl
end Go.Proofs.YtodbjjlgnnjmoaaDoor
