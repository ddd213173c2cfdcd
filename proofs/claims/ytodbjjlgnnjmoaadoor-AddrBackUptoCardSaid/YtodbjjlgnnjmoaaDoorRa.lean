/- The reference's small functions: has, digit, number. -/
import Derived.Test.YtodbjjlgnnjmoaaDoorAf
import Derived.Maps.AppendAt
namespace Go.Proofs.YtodbjjlgnnjmoaaDoor
open Go.RowKit
/-- Does the byte stand in the text? -/
def hasF (l : List UInt8) (c : UInt8) : Bool := l.any (· == c)
theorem hasF_yes {l : List UInt8} {c : UInt8} {k : Nat} (h : l[k]? = some c) : hasF l c = true := by
  unfold hasF
  rw [List.any_eq_true]
  exact ⟨c, List.mem_of_getElem? h, by simp⟩
theorem hasF_no {l : List UInt8} {c : UInt8} (h : ∀ j, j < l.length → l[j]? ≠ some c) : hasF l c = false := by
  unfold hasF
  rw [List.any_eq_false]
  intro x hx
  obtain ⟨j, hj⟩ := List.getElem?_of_mem hx
  have hlt := (List.getElem?_eq_some_iff.1 hj).1
  intro e
  have e' : x = c := by simpa using e
  exact h j hlt (by rw [hj, e'])
theorem at_k (s : ByteArray) (k : Nat) (h : k < s.size) : s.data.toList[k]? = some s[k] := by
  have h' : k < s.data.toList.length := by simpa using h
  rw [List.getElem?_eq_getElem h']
  rfl
theorem u8_eq {a b : UInt8} (h : ((a.toNat : Int) == (b.toNat : Int)) = true) : a = b := by
  have := eq_of_beq h
  exact UInt8.toNat_inj.1 (by omega)
theorem u8_ne {a b : UInt8} (h : ((a.toNat : Int) == (b.toNat : Int)) = false) : a ≠ b := by
  intro e
  subst e
  simp at h
theorem has_any (s : ByteArray) (c : UInt8) (w : World) (hs : s.size < 4294967281) :
    Calls Tryd.prog 22 #[.string s, .int .u8 c.toNat] w fun e w' => e = .returned (.bool (hasF s.data.toList c)) ∧ w = w' := by
  have hc8 : c.toNat ≤ 255 := by have := c.toNat_lt; omega
  have HLN := Lib.hid (len_size s)
  go_enter Tryd.func22, Tryd.ntmps22
  go_wp2
  go_loop [5] (fun i => ∃ k : Nat, k ≤ s.size ∧ i = .int .i64 k ∧ ∀ j, j < k → s.data.toList[j]? ≠ some c) (fun i => s.size - (intOf i).toNat)
  case atStart => exact ⟨0, by omega, rfl, by omega⟩
  case round =>
    obtain ⟨k, hk, rfl, hz⟩ := hrel
    have HZ := Lib.hid hz
    clear hz
    by_cases hlt : k < s.size
    · have HK := Lib.hid (at_k s k hlt)
      go_wp2
      · go_ret
        refine ⟨ret_bool (hasF_yes (k := k) ?_).symm, rfl⟩
        exact HK.out.trans (congrArg some (u8_eq ‹_›))
      · go_round
        case rel =>
          refine ⟨k + 1, by omega, by go_num, fun j hj => ?_⟩
          rcases Nat.lt_succ_iff_lt_or_eq.1 hj with h | rfl
          · exact HZ.out j h
          · rw [HK.out]
            exact fun e => u8_ne ‹_› (Option.some.inj e)
        case measure => simp [intOf]; omega
    · go_wp2
      go_ret
      exact ⟨ret_bool (hasF_no fun j hj => HZ.out j (by rw [HLN.out] at hj; omega)).symm, rfl⟩
/-- A digit's number. -/
def digF (c : UInt8) : Nat := (hexD c).getD 99
theorem dig_any (c : UInt8) (w : World) :
    Calls Tryd.prog 48 #[.int .u8 c.toNat] w fun e w' => e = .returned (.int .i64 (digF c)) ∧ w = w' := by
  have hc8 : c.toNat ≤ 255 := by have := c.toNat_lt; omega
  by_cases hd1 : 48 ≤ (c.toNat : Int) ∧ (c.toNat : Int) ≤ 57
  · have hx : hexD c = some (c.toNat - 48) := by unfold hexD; rw [if_pos (by omega)]
    have HX := Lib.hid hx
    clear hx
    go_enter Tryd.func48, Tryd.ntmps48
    go_wp2
    go_ret
    refine ⟨ret_int ?_, rfl⟩
    unfold digF
    rw [HX.out]
    simp only [Option.getD_some]
    omega
  · by_cases hd2 : 97 ≤ (c.toNat : Int) ∧ (c.toNat : Int) ≤ 102
    · have hx : hexD c = some (c.toNat - 97 + 10) := by unfold hexD; rw [if_neg (by omega), if_pos (by omega)]
      have HX := Lib.hid hx
      clear hx
      go_enter Tryd.func48, Tryd.ntmps48
      go_wp2
      go_ret
      refine ⟨ret_int ?_, rfl⟩
      unfold digF
      rw [HX.out]
      simp only [Option.getD_some]
      omega
    · by_cases hd3 : 65 ≤ (c.toNat : Int) ∧ (c.toNat : Int) ≤ 70
      · have hx : hexD c = some (c.toNat - 65 + 10) := by unfold hexD; rw [if_neg (by omega), if_neg (by omega), if_pos (by omega)]
        have HX := Lib.hid hx
        clear hx
        go_enter Tryd.func48, Tryd.ntmps48
        go_wp2
        go_ret
        refine ⟨ret_int ?_, rfl⟩
        unfold digF
        rw [HX.out]
        simp only [Option.getD_some]
        omega
      · have hx : hexD c = none := by unfold hexD; rw [if_neg (by omega), if_neg (by omega), if_neg (by omega)]
        have HX := Lib.hid hx
        clear hx
        go_enter Tryd.func48, Tryd.ntmps48
        go_wp2
        all_goals
          go_ret
          refine ⟨ret_int ?_, rfl⟩
          unfold digF
          rw [HX.out]
          rfl
/-- A number of hexadecimal digits, as the reference reads it. -/
def num16 (l : List UInt8) : Int := match part6 l with
  | some n => (n : Int)
  | none => -1
/-- A decimal number of at most three digits, as the reference reads it. -/
def num10 (l : List UInt8) : Int := if l.length < 1 ∨ 3 < l.length then -1 else match decGo l 0 with
  | some n => (n : Int)
  | none => -1
theorem dig10 {c : UInt8} : (if 48 ≤ c.toNat ∧ c.toNat ≤ 57 then some (c.toNat - 48) else none) = if digF c < 10 then some (digF c) else none := by
  unfold digF hexD
  by_cases h1 : 48 ≤ c.toNat ∧ c.toNat ≤ 57
  · rw [if_pos h1, if_pos h1]
    simp only [Option.getD_some]
    rw [if_pos (by omega)]
  · rw [if_neg h1, if_neg h1]
    split
    · simp only [Option.getD_some]; rw [if_neg (by omega)]
    · split
      · simp only [Option.getD_some]; rw [if_neg (by omega)]
      · simp
theorem dig16 {c : UInt8} : hexD c = if digF c < 16 then some (digF c) else none := by
  unfold digF
  cases h : hexD c with
  | none => simp
  | some d =>
    have := hexD_le h
    simp only [Option.getD_some]
    rw [if_pos (by omega)]
theorem num16_len {l : List UInt8} (h : l.length < 1 ∨ 4 < l.length) : num16 l = -1 := by
  unfold num16 part6
  rw [if_pos h]
theorem num16_dig {l : List UInt8} (h : hexGo l 0 = none) : num16 l = -1 := by
  unfold num16 part6
  rw [h]
  split <;> simp_all
theorem num16_yes {l : List UInt8} {n : Nat} (hl : ¬ (l.length < 1 ∨ 4 < l.length)) (h : hexGo l 0 = some n) : num16 l = n := by
  unfold num16 part6
  rw [if_neg hl, h]
theorem num10_len {l : List UInt8} (h : l.length < 1 ∨ 3 < l.length) : num10 l = -1 := by
  unfold num10
  rw [if_pos h]
theorem num10_dig {l : List UInt8} (h : decGo l 0 = none) : num10 l = -1 := by
  unfold num10
  rw [h]
  split <;> rfl
theorem num10_yes {l : List UInt8} {n : Nat} (hl : ¬ (l.length < 1 ∨ 3 < l.length)) (h : decGo l 0 = some n) : num10 l = n := by
  unfold num10
  rw [if_neg hl, h]
theorem split_at {p : List UInt8} {j : Nat} {c : UInt8} (h : p[j]? = some c) : p = p.take j ++ c :: p.drop (j + 1) := by
  obtain ⟨hlt, rfl⟩ := List.getElem?_eq_some_iff.1 h
  rw [← List.drop_eq_getElem_cons hlt, List.take_append_drop]
theorem take_at {p : List UInt8} {j : Nat} {c : UInt8} (h : p[j]? = some c) : p.take (j + 1) = p.take j ++ [c] := by
  obtain ⟨hlt, rfl⟩ := List.getElem?_eq_some_iff.1 h
  rw [List.take_succ_eq_append_getElem hlt]
set_option maxRecDepth 100000 in
theorem num16_any (p : ByteArray) (w : World) :
    Calls Tryd.prog 38 #[.string p, .int .i64 16, .int .i64 4] w fun e w' => e = .returned (.int .i64 (num16 p.data.toList)) ∧ w = w' := by
  have HLN := Lib.hid (len_size p)
  by_cases hp0 : p.size = 0
  · go_enter Tryd.func38, Tryd.ntmps38
    have h0 : ((p.size : Int) == 0) = true := by simp [hp0]
    go_wp2
    go_ret
    exact ⟨ret_int (num16_len (by rw [HLN.out]; omega)).symm, rfl⟩
  · have h0 : ((p.size : Int) == 0) = false := by simp [hp0]
    by_cases hp3 : 4 < p.size
    · go_enter Tryd.func38, Tryd.ntmps38
      go_wp2
      go_ret
      exact ⟨ret_int (num16_len (by rw [HLN.out]; omega)).symm, rfl⟩
    · have HG : Hid (¬ (p.data.toList.length < 1 ∨ 4 < p.data.toList.length)) := by
        rw [HLN.out]
        show ¬ _
        omega
      go_enter Tryd.func38, Tryd.ntmps38
      go_wp2
      go_loop [7, 8] (fun nn i => ∃ j n : Nat, j ≤ p.size ∧ i = .int .i64 j ∧ nn = .int .i64 n ∧ n ≤ 65535 ∧ hexGo (p.data.toList.take j) 0 = some n) (fun _ i => 4 - (intOf i).toNat)
      case atStart => exact ⟨0, 0, by omega, rfl, rfl, by omega, rfl⟩
      case round =>
        obtain ⟨j, n, hj, rfl, rfl, hn, hdec⟩ := hrel
        have HD := Lib.hid hdec
        clear hdec
        by_cases hjl : j < p.size
        · have HJ := Lib.hid (at_k p j hjl)
          obtain ⟨d, hd⟩ : ∃ d, digF p[j] = d := ⟨_, rfl⟩
          have HDD := Lib.hid hd
          clear hd
          by_cases hd16 : d < 16
          · have hx : hexD p[j] = some d := by rw [dig16, HDD.out, if_pos hd16]
            have hstep : hexGo (p.data.toList.take (j + 1)) 0 = some (16 * n + d) := by
              rw [take_at HJ.out, hexGo_snoc, HD.out]
              simp only [Option.bind_some, hx]
            have hle : 16 * n + d ≤ 65535 := by
              have h1 := hexGo_le _ _ _ hstep
              have h2 : (p.data.toList.take (j + 1)).length ≤ 4 := by rw [List.length_take, HLN.out]; omega
              have h3 : 16 ^ (p.data.toList.take (j + 1)).length ≤ 16 ^ 4 := Nat.pow_le_pow_right (by omega) h2
              simp only [Nat.zero_add, Nat.one_mul] at h1
              omega
            have HST := Lib.hid hstep
            clear hstep hx
            go_wp2_with (go_at_call 48; refine (dig_any _ _).mono ?_; rintro e w' ⟨rfl, rfl⟩; rw [HDD.out])
            go_round
            case rel => exact ⟨j + 1, 16 * n + d, by omega, by go_num, by go_num, hle, HST.out⟩
            case measure => simp [intOf]; omega
          · have HX : Hid (hexGo p.data.toList 0 = none) := by
              show _ = _
              rw [split_at HJ.out]
              exact hexGo_none (by rw [dig16, HDD.out, if_neg hd16]) _ _ _
            go_wp2_with (go_at_call 48; refine (dig_any _ _).mono ?_; rintro e w' ⟨rfl, rfl⟩; rw [HDD.out])
            go_ret
            exact ⟨ret_int (num16_dig HX.out).symm, rfl⟩
        · have HF : Hid (hexGo p.data.toList 0 = some n) := by
            have := HD.out
            rwa [List.take_of_length_le (by rw [HLN.out]; omega)] at this
          go_wp2
          go_ret
          exact ⟨ret_int (num16_yes HG.out HF.out).symm, rfl⟩
set_option maxRecDepth 100000 in
theorem num10_any (p : ByteArray) (w : World) :
    Calls Tryd.prog 38 #[.string p, .int .i64 10, .int .i64 3] w fun e w' => e = .returned (.int .i64 (num10 p.data.toList)) ∧ w = w' := by
  have HLN := Lib.hid (len_size p)
  by_cases hp0 : p.size = 0
  · go_enter Tryd.func38, Tryd.ntmps38
    have h0 : ((p.size : Int) == 0) = true := by simp [hp0]
    go_wp2
    go_ret
    exact ⟨ret_int (num10_len (by rw [HLN.out]; omega)).symm, rfl⟩
  · have h0 : ((p.size : Int) == 0) = false := by simp [hp0]
    by_cases hp3 : 3 < p.size
    · go_enter Tryd.func38, Tryd.ntmps38
      go_wp2
      go_ret
      exact ⟨ret_int (num10_len (by rw [HLN.out]; omega)).symm, rfl⟩
    · have HG : Hid (¬ (p.data.toList.length < 1 ∨ 3 < p.data.toList.length)) := by
        rw [HLN.out]
        show ¬ _
        omega
      go_enter Tryd.func38, Tryd.ntmps38
      go_wp2
      go_loop [7, 8] (fun nn i => ∃ j n : Nat, j ≤ p.size ∧ i = .int .i64 j ∧ nn = .int .i64 n ∧ n ≤ 999 ∧ decGo (p.data.toList.take j) 0 = some n) (fun _ i => 3 - (intOf i).toNat)
      case atStart => exact ⟨0, 0, by omega, rfl, rfl, by omega, rfl⟩
      case round =>
        obtain ⟨j, n, hj, rfl, rfl, hn, hdec⟩ := hrel
        have HD := Lib.hid hdec
        clear hdec
        by_cases hjl : j < p.size
        · have HJ := Lib.hid (at_k p j hjl)
          obtain ⟨d, hd⟩ : ∃ d, digF p[j] = d := ⟨_, rfl⟩
          have HDD := Lib.hid hd
          clear hd
          by_cases hd16 : d < 10
          · have hx := dig10 (c := p[j])
            rw [HDD.out, if_pos hd16] at hx
            have hdig : 48 ≤ p[j].toNat ∧ p[j].toNat ≤ 57 := by
              by_cases h : 48 ≤ p[j].toNat ∧ p[j].toNat ≤ 57
              · exact h
              · rw [if_neg h] at hx; cases hx
            rw [if_pos hdig] at hx
            have hstep : decGo (p.data.toList.take (j + 1)) 0 = some (10 * n + d) := by
              rw [take_at HJ.out, decGo_snoc, HD.out]
              simp only [Option.bind_some]
              rw [if_pos hdig, Option.some.inj hx]
            have hle : 10 * n + d ≤ 999 := by
              have h1 := decGo_le _ _ _ hstep
              have h2 : (p.data.toList.take (j + 1)).length ≤ 3 := by rw [List.length_take, HLN.out]; omega
              have h3 : 10 ^ (p.data.toList.take (j + 1)).length ≤ 10 ^ 3 := Nat.pow_le_pow_right (by omega) h2
              simp only [Nat.zero_add, Nat.one_mul] at h1
              omega
            have HST := Lib.hid hstep
            clear hstep hx hdig
            go_wp2_with (go_at_call 48; refine (dig_any _ _).mono ?_; rintro e w' ⟨rfl, rfl⟩; rw [HDD.out])
            go_round
            case rel => exact ⟨j + 1, 10 * n + d, by omega, by go_num, by go_num, hle, HST.out⟩
            case measure => simp [intOf]; omega
          · have HX : Hid (decGo p.data.toList 0 = none) := by
              show _ = _
              rw [split_at HJ.out]
              refine decGo_none (fun h => ?_) _ _ _
              have hx := dig10 (c := p[j])
              rw [HDD.out, if_neg hd16, if_pos h] at hx
              cases hx
            go_wp2_with (go_at_call 48; refine (dig_any _ _).mono ?_; rintro e w' ⟨rfl, rfl⟩; rw [HDD.out])
            go_ret
            exact ⟨ret_int (num10_dig HX.out).symm, rfl⟩
        · have HF : Hid (decGo p.data.toList 0 = some n) := by
            have := HD.out
            rwa [List.take_of_length_le (by rw [HLN.out]; omega)] at this
          go_wp2
          go_ret
          exact ⟨ret_int (num10_yes HG.out HF.out).symm, rfl⟩
end Go.Proofs.YtodbjjlgnnjmoaaDoor
