/- AddrBack, joined: true of every address, every text and every number. -/
import Derived.Test.YtodbjjlgnnjmoaaDoorSe
import Derived.Test.YtodbjjlgnnjmoaaDoorSg
import Derived.Test.YtodbjjlgnnjmoaaDoorSh
namespace Go.Proofs.YtodbjjlgnnjmoaaDoor
open Go.RowKit
theorem u64_range (x : Int) : 0 ≤ IntKind.u64.wrap x := by
  simp [IntKind.wrap, IntKind.bits, IntKind.signed]
  omega
theorem e_mod (x : Int) (n : Nat) (hn : 0 < n) (h9 : n ≤ 9) : ∃ l : Nat, wrap64 ((IntKind.u64.wrap x).tmod n) = l ∧ l < n := by
  have h := u64_range x
  refine ⟨((IntKind.u64.wrap x) % n).toNat, ?_, ?_⟩
  · rw [Int.tmod_eq_emod_of_nonneg h]
    have h1 := Int.emod_nonneg (IntKind.u64.wrap x) (b := n) (by omega)
    have h2 := Int.emod_lt_of_pos (IntKind.u64.wrap x) (b := n) (by omega)
    rw [IntWalk.wrap64_in _ (by omega)]
    omega
  · have h1 := Int.emod_nonneg (IntKind.u64.wrap x) (b := n) (by omega)
    have h2 := Int.emod_lt_of_pos (IntKind.u64.wrap x) (b := n) (by omega)
    omega
/-- Parse of a text that is read as this address. -/
theorem parse_as {l : List UInt8} {v : Int} {b : Nat → Int} (hl : l.length < 4294967281) (h : adr (pV l) (pB l) = adr v b ∧ pE l = 0) (m : Int) :
    Hid (∀ W, Env m W → Calls Tryd.prog 9 #[.string ⟨l.toArray⟩] W fun e w' => e = .returned (.tuple #[adr v b, .int .i64 0]) ∧ Below W.heap.size W w') := fun W he => by
  have hp := parse_any ⟨l.toArray⟩ W m (by simpa [ByteArray.size] using hl) he.hm
  refine hp.mono ?_
  rintro e w' ⟨rfl, hb⟩
  refine ⟨?_, hb⟩
  rw [h.1, h.2]
theorem text6_le (b : Nat → Int) : (text6 b).length ≤ 100 := by
  have key : ∀ xs : List (List UInt8), xs.length ≤ 8 → (∀ x ∈ xs, x ∈ txts b) → (Lib.join xs [58]).length ≤ 40 := fun xs hl hx => by
    have h := join_le 4 xs [58] (fun x hm => by
      obtain ⟨i, _, rfl⟩ := List.mem_map.1 (hx x hm)
      exact hexTo_le 3 (grp b i) [])
    simp only [List.length_cons, List.length_nil] at h
    omega
  have h8 : (txts b).length = 8 := by simp [txts]
  unfold text6
  split
  · have := key (txts b) (by omega) (fun _ h => h)
    omega
  · have h1 := key ((txts b).take (bestGo (zG b) 8).1) (by rw [List.length_take]; omega) (fun x h => List.mem_of_mem_take h)
    have h2 := key ((txts b).drop ((bestGo (zG b) 8).1 + (bestGo (zG b) 8).2)) (by rw [List.length_drop]; omega) (fun x h => List.mem_of_mem_drop h)
    simp only [List.length_append, List.length_cons, List.length_nil]
    omega
theorem printT_le {v : Int} {b : Nat → Int} (hb : ∀ i, 0 ≤ b i ∧ b i ≤ 255) : (printT v b).length ≤ 100 := by
  unfold printT
  split
  · split
    · have h1 := join_le 21 ((decs b 4).map (·.data.toList)) [46] (fun x hx => by
        obtain ⟨y, hy, rfl⟩ := List.mem_map.1 hx
        obtain ⟨i, _, rfl⟩ := List.mem_map.1 hy
        have := hb i
        exact Lib.itoa_length_le (b i) (by omega) (by omega))
      rw [List.length_map, decs_len] at h1
      simp only [List.length_cons, List.length_nil] at h1
      omega
    · exact text6_le b
  · simp
theorem print_as {v : Int} {b : Nat → Int} (hb : ∀ i, 0 ≤ b i ∧ b i ≤ 255) (m : Int) {t : List UInt8} (ht : printT v b = t) :
    Hid (∀ W, Env m W → Calls Tryd.prog 11 #[adr v b] W fun e w' => e = .returned (.string ⟨t.toArray⟩) ∧ Below W.heap.size W w') := fun W he => by
  have h := print_any v b hb W m he
  rw [ht] at h
  exact h
theorem valid_as {v : Int} {b : Nat → Int} {r : Bool} (h : validF v b = r) : Hid (∀ W, Calls Tryd.prog 12 #[adr v b] W fun e w' => e = .returned (.bool r) ∧ Below W.heap.size W w') := fun W => by
  have hv := valid_b v b W
  rw [h] at hv
  exact hv
theorem parse_nil (m : Int) : Hid (∀ W, Env m W → Calls Tryd.prog 9 #[.string ⟨#[]⟩] W fun e w' => e = .returned (.tuple #[adr 0 z0, .int .i64 30]) ∧ Below W.heap.size W w') := fun W he => by
  have h0 : pOK [] = false := by decide +kernel
  refine (parse_any ⟨#[]⟩ W m (by decide) he.hm).mono ?_
  rintro e w' ⟨rfl, hb⟩
  refine ⟨?_, hb⟩
  unfold pV pB pE
  rw [show (⟨#[]⟩ : ByteArray).data.toList = [] from rfl, h0]
  rfl
theorem long_le {b : Nat → Int} (hb : ∀ i, 0 ≤ b i ∧ b i ≤ 255) (least : Nat) (up : Bool) (gap most : Nat) (h4 : least ≤ 4) (hg : gap < 8) : (longT b least up gap most).length ≤ 100 :=
  longS_le _ (longP_le b hb least up h4) gap _ 8 (Nat.le_refl _) (by omega)
/-- The law. -/
theorem back_any (v : Int) (b : Nat → Int) (hb : ∀ i, 0 ≤ b i ∧ b i ≤ 255) (s : ByteArray) (hs : s.size < 4294967281) (least gap most : Int) (w : World) (m : Int) (he : Env m w) :
    Calls Tryd.prog 4 #[adr v b, .string s, .int .i64 least, .int .i64 gap, .int .i64 most] w fun e w' => e = .returned (.bool true) ∧ Below w.heap.size w w' := by
  have hno : validF v b = false → printT v b = [] := fun h => by unfold printT; rw [h]; rfl
  obtain ⟨l0, hl0, hl4⟩ := e_mod least 4 (by omega) (by omega)
  obtain ⟨g1, hg1, hg8⟩ := e_mod gap 8 (by omega) (by omega)
  obtain ⟨m1, hm1, hm9⟩ := e_mod most 9 (by omega) (by omega)
  have e1 : Hid (wrap64 (1 + wrap64 ((IntKind.u64.wrap least).tmod 4)) = ((l0 + 1 : Nat) : Int)) := by
    show _ = _
    rw [show ((4 : Nat) : Int) = 4 from rfl] at hl0
    rw [hl0, IntWalk.wrap64_in _ (by omega)]
    omega
  have L : ∀ up, Hid (∀ W, Calls Tryd.prog 13 #[adr 6 b, .int .i64 (l0 + 1 : Nat), .bool up, .int .i64 g1, .int .i64 m1] W fun e w' => e = .returned (.string ⟨(longT b (l0 + 1) up g1 m1).toArray⟩) ∧ Below W.heap.size W w') :=
    fun up W => long_any b hb (l0 + 1) up g1 m1 (by omega) hg8 (by omega) W
  have LB : ∀ up, Hid (∀ W, Env m W → Calls Tryd.prog 9 #[.string ⟨(longT b (l0 + 1) up g1 m1).toArray⟩] W fun e w' => e = .returned (.tuple #[adr 6 b, .int .i64 0]) ∧ Below W.heap.size W w') :=
    fun up => parse_as (by have := long_le hb (l0 + 1) up g1 m1 (by omega) hg8; omega) (long_back hb (l0 + 1) up g1 m1 (by omega) (by omega) hg8) m
  have ta_le := printT_le (v := v) hb
  have TA : validF v b = true → Hid (∀ W, Env m W → Calls Tryd.prog 9 #[.string ⟨(printT v b).toArray⟩] W fun e w' => e = .returned (.tuple #[adr v b, .int .i64 0]) ∧ Below W.heap.size W w') :=
    fun h => parse_as (by omega) (print_back hb h) m
  have P1 : ∀ {x : Int} {y : Nat → Int} {z : Int}, pV s.data.toList = x → pB s.data.toList = y → pE s.data.toList = z → Hid (∀ W, Env m W → Calls Tryd.prog 9 #[.string s] W fun e w' => e = .returned (.tuple #[adr x y, .int .i64 z]) ∧ Below W.heap.size W w') :=
    fun h1 h2 h3 W he => by
      rw [← h1, ← h2, ← h3]
      exact parse_any s W m hs he.hm
  rcases pE_cases s.data.toList with h0 | ⟨h0, hx, hy⟩
  · have hv := parse_valid h0
    have hxb := pB_le s.data.toList
    have htx := printT_le (v := pV s.data.toList) hxb
    have P2 := print_as (v := pV s.data.toList) hxb m rfl
    have P3 := parse_as (by omega) (print_back hxb hv) m
    have P4 := valid_as hv
    cases hva : validF v b with
    | false => exact back_ok_no v b s least gap most w m _ _ _ he (P1 rfl rfl h0) P2 P3 P4 (valid_as hva) (print_as hb m (hno hva))
    | true =>
      rcases validF_46 hva with rfl | rfl
      · exact back_ok_4 b s least gap most w m _ _ _ _ he (P1 rfl rfl h0) P2 P3 P4 (valid_as hva) (print_as hb m rfl) (TA hva)
      · exact back_ok_6 b s least gap most w m _ _ _ _ (l0 + 1) g1 m1 (fun up => longT b (l0 + 1) up g1 m1) he (P1 rfl rfl h0) P2 P3 P4 (valid_as hva) (print_as hb m rfl) (TA hva) e1 hg1 hm1 (fun up => L up) (fun up => LB up)
  · have hz : ∀ i, 0 ≤ z0 i ∧ z0 i ≤ 255 := fun _ => ⟨Int.le_refl 0, by simp [z0]⟩
    have hvz : printT 0 z0 = [] := by decide +kernel
    have P2 := print_as (v := 0) hz m hvz
    have P3 := parse_nil m
    cases hva : validF v b with
    | false => exact back_bad_no v b s least gap most w m he (P1 hx hy h0) P2 P3 (valid_as hva) (print_as hb m (hno hva))
    | true =>
      rcases validF_46 hva with rfl | rfl
      · exact back_bad_4 b s least gap most w m _ he (P1 hx hy h0) P2 P3 (valid_as hva) (print_as hb m rfl) (TA hva)
      · exact back_bad_6 b s least gap most w m _ (l0 + 1) g1 m1 (fun up => longT b (l0 + 1) up g1 m1) he (P1 hx hy h0) P2 P3 (valid_as hva) (print_as hb m rfl) (TA hva) e1 hg1 hm1 (fun up => L up) (fun up => LB up)
end Go.Proofs.YtodbjjlgnnjmoaaDoor
