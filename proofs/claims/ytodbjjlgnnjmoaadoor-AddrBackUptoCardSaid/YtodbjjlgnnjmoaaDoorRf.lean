/- The reference's function parse6. -/
import Derived.Test.YtodbjjlgnnjmoaaDoorRe
import Derived.Test.YtodbjjlgnnjmoaaDoorPe
import Derived.Maps.AppendAt
import Derived.Laws.AppendOwnNone
namespace Go.Proofs.YtodbjjlgnnjmoaaDoor
open Go.RowKit
/-- What parse6 hands back. -/
def R6 (s : ByteArray) (w : World) (e : Ending) (w' : World) : Prop :=
  e = .returned (.tuple #[adr (if okSix s.data.toList then 6 else 0) (if okSix s.data.toList then valSix s.data.toList else z0), .int .i64 (if okSix s.data.toList then 0 else 30)]) ∧ Below w.heap.size w w'
theorem R6_no {s : ByteArray} {w w' : World} (h : okSix s.data.toList = false) (hb : Below w.heap.size w w') : R6 s w (.returned (.tuple #[adr 0 z0, .int .i64 30])) w' := by
  unfold R6
  rw [h]
  exact ⟨rfl, hb⟩
theorem R6_yes {s : ByteArray} {w w' : World} {b : Nat → Int} (h : okSix s.data.toList = true ∧ ∀ i, i < 16 → valSix s.data.toList i = b i) (hb : Below w.heap.size w w') : R6 s w (.returned (.tuple #[adr 6 b, .int .i64 0])) w' := by
  unfold R6
  rw [h.1]
  refine ⟨?_, hb⟩
  have e := ac_congr 6 h.2
  exact congrArg (fun c => Ending.returned (.tuple #[.agg c, .int .i64 0])) e.symm
theorem cmp_dbl {s : ByteArray} {l : List UInt8} (h : s.data.toList = l) (k : Nat) : ((s.extract k (k + 2)).toList == [58, 58]) = dbl l k := by
  have e : (s.extract k (k + 2)).toList = (l.drop k).take 2 := by
    rw [Lib.toList_data, extract_list, h, List.drop_take, Nat.add_sub_cancel_left]
  rw [e]
  rfl
theorem ext_take {s : ByteArray} {l : List UInt8} (h : s.data.toList = l) (k : Nat) : (s.extract 0 k).data.toList = l.take k := by
  rw [extract_list, h]
  rfl
theorem ext_drop {s : ByteArray} {l : List UInt8} (h : s.data.toList = l) (k : Nat) : (s.extract k s.size).data.toList = l.drop k := by
  rw [extract_list, h, List.take_of_length_le (by rw [← h]; simp)]
def slen : Value → Nat
  | .slice _ n _ => n
  | _ => 0
theorem getD_three {X Y : List Nat} (hx : ∀ j, X.getD j 0 < 65536) (hy : ∀ j, Y.getD j 0 < 65536) (t j : Nat) : (X ++ List.replicate t 0 ++ Y).getD j 0 < 65536 := by
  simp only [List.getD_eq_getElem?_getD] at hx hy ⊢
  rw [List.append_assoc, List.getElem?_append]
  split
  · exact hx j
  · rw [List.getElem?_append]
    split
    · rw [List.getElem?_replicate]
      split <;> simp
    · exact hy _
theorem owns_slice {w : World} {base : Nat} {v : Value} {n : Nat} {xs : List Value} (h : w.ownsRow base 3 1 v n xs) : ∃ (a : Option Addr) (c : Nat), v = .slice a n c := by
  rcases h.2 with ⟨rfl, rfl⟩ | ⟨g, cap, cur, rfl, _⟩
  · exact ⟨_, _, rfl⟩
  · exact ⟨_, _, rfl⟩
set_option maxRecDepth 100000 in
set_option maxHeartbeats 4000000 in
theorem parse6_any (s : ByteArray) (w : World) (hs : s.size < 4294967281) : Calls Tryd.prog 23 #[.string s] w (R6 s w) := by
  have HLN := Lib.hid (len_size s)
  have g0 := HB.new w (ac 0 z0) 25
  obtain ⟨l, hl⟩ : ∃ l, s.data.toList = l := ⟨_, rfl⟩
  have HL := Lib.hid hl
  clear hl
  go_enter Tryd.func23, Tryd.ntmps23
  go_wp2_with (refine al25 rfl rfl ?_)
  refine (rgroups_any s _ hs).mono ?_
  rintro e w1 ⟨v, rfl, hown, hb1⟩
  rw [HL.out] at hown ⊢
  have hb : Below w.heap.size w w1 := ((Below.rfl' w).al _).con hb1
  have q0 := g0.below hb1 g0.lt
  clear g0 hb1
  obtain ⟨ok, hok⟩ : ∃ b, okG l = b := ⟨_, rfl⟩
  obtain ⟨n, hn⟩ : ∃ n, (valG l).length = n := ⟨_, rfl⟩
  have HOK := Lib.hid hok
  have HN := Lib.hid hn
  rw [hn] at hown
  rw [hok]
  clear hok hn
  by_cases hw : ok = true ∧ n = 8
  · obtain ⟨rfl, rfl⟩ := hw
    obtain ⟨a0, c0, rfl⟩ := owns_slice hown
    go_wp2_with (first | (go_at_call 36; refine (from_any _ _ _ _ (valG_getD l) hown).mono ?_; rintro e w2 ⟨rfl, hb2⟩; replace q0 := q0.below hb2 q0.lt; replace hb := hb.con hb2) | (refine st25 rfl _ _ rfl _ rfl _ _ _ _ rfl q0 ?_))
    refine ret25 rfl rfl rfl (q0.row _) (R6_yes ?_ (hb.row (Nat.le_refl _) _))
    rw [HL.out]
    exact six_whole HOK.out HN.out
  · have HW : Hid (¬ (okG l = true ∧ (valG l).length = 8)) := by
      show ¬ _
      rw [HOK.out, HN.out]
      exact hw
    obtain ⟨a0, c0, rfl⟩ := owns_slice hown
    clear hown
    have hcase : ok = false ∨ (ok = true ∧ ((n : Int) == 8) = false) := by
      cases ok
      · exact .inl rfl
      · refine .inr ⟨rfl, ?_⟩
        have : n ≠ 8 := fun e => hw ⟨rfl, e⟩
        simp
        omega
    clear hw
    rcases hcase with rfl | ⟨rfl, hn8⟩
    all_goals
      go_wp2
      go_loopw [6] (fun i wr => ∃ k : Nat, k ≤ s.size ∧ i = .int .i64 k ∧ Below w.heap.size w wr ∧ HB wr w.heap.size (ac 0 z0) 25 ∧ ∀ j, j < k → ¬ fitAt l j) (fun i _ => s.size - (intOf i).toNat)
      case atStart => exact ⟨0, by omega, rfl, hb, q0, by omega⟩
      case round =>
        obtain ⟨k, hk, rfl, hbr, p0, hno⟩ := hrel
        clear hb q0
        have HNO := Lib.hid hno
        clear hno
        by_cases hlt : k + 2 ≤ s.size
        · have hcmp := cmp_dbl HL.out k
          cases hd : dbl l k
          · rw [hd] at hcmp
            have HD : Hid (∀ j, j < k + 1 → ¬ fitAt l j) := fun j hj hfit => by
              rcases Nat.lt_succ_iff_lt_or_eq.1 hj with h | rfl
              · exact HNO.out j h hfit
              · rw [hfit.1] at hd; cases hd
            clear hd
            go_wp2
            go_roundw
            case rel => exact ⟨k + 1, by omega, by go_num, hbr, p0, HD.out⟩
            case measure => simp [intOf]; omega
          · rw [hd] at hcmp
            have HD := Lib.hid hd
            clear hd
            have hx := ext_take HL.out k
            have hy := ext_drop HL.out (k + 2)
            have hxs : (s.extract 0 k).size < 4294967281 := by simp; omega
            have hys : (s.extract (k + 2) s.size).size < 4294967281 := by simp; omega
            go_wp2_with fail
            refine (rgroups_any _ _ hxs).mono ?_
            rintro e w2 ⟨vx, rfl, hox, hb2⟩
            rw [hx] at hox ⊢
            have hp0 := p0.lt
            replace hbr := hbr.con hb2
            replace p0 := p0.below hb2 p0.lt
            have hz2 := hb2.size
            clear hb2 hx hxs
            go_wp2_with fail
            refine (rgroups_any _ _ hys).mono ?_
            rintro e w3 ⟨vy, rfl, hoy, hb3⟩
            rw [hy] at hoy ⊢
            replace hbr := hbr.con hb3
            replace p0 := p0.below hb3 p0.lt
            have hxl := hox.lt
            replace hox := owns_below hox hb3
            have hz3 := hb3.size
            clear hb3 hy hys
            obtain ⟨okx, hokx⟩ : ∃ b, okG (l.take k) = b := ⟨_, rfl⟩
            obtain ⟨oky, hoky⟩ : ∃ b, okG (l.drop (k + 2)) = b := ⟨_, rfl⟩
            obtain ⟨X, hX⟩ : ∃ X, valG (l.take k) = X := ⟨_, rfl⟩
            obtain ⟨Y, hY⟩ : ∃ Y, valG (l.drop (k + 2)) = Y := ⟨_, rfl⟩
            obtain ⟨nx, hnx⟩ : ∃ n, X.length = n := ⟨_, rfl⟩
            obtain ⟨ny, hny⟩ : ∃ n, Y.length = n := ⟨_, rfl⟩
            rw [hX, hnx] at hox
            rw [hY, hny] at hoy
            rw [hokx, hoky]
            have HFIT : Hid (fitAt l k ↔ okx = true ∧ oky = true ∧ nx + ny ≤ 7) := by
              show _ ↔ _
              unfold fitAt
              rw [HD.out, hokx, hoky, hX, hY, hnx, hny]
              simp
            have HSIX : Hid (fitAt l k → okSix l = true ∧ ∀ i, i < 16 → valSix l i = byte6 (X ++ List.replicate (8 - nx - ny) 0 ++ Y) i) := fun h => by
              have := six_fit h
              rw [hX, hY, hnx, hny] at this
              exact this
            have HXV : Hid (∀ j, X.getD j 0 < 65536) := fun j => by rw [← hX]; exact valG_getD _ j
            have HYV : Hid (∀ j, Y.getD j 0 < 65536) := fun j => by rw [← hY]; exact valG_getD _ j
            have HNX := Lib.hid hnx
            have HNY := Lib.hid hny
            have hnxs : nx ≤ s.size + 1 := by
              have := valG_len (l.take k)
              rw [hX, hnx, List.length_take] at this
              omega
            have hnys : ny ≤ s.size + 1 := by
              have h1 := valG_len (l.drop (k + 2))
              have h2 := HLN.out
              rw [HL.out] at h2
              rw [hY, hny, List.length_drop] at h1
              omega
            clear hokx hoky hX hY hnx hny hcmp
            by_cases hfit : okx = true ∧ oky = true ∧ nx + ny ≤ 7
            · obtain ⟨rfl, rfl, h7⟩ := hfit
              have HS := Lib.hid (HSIX.out (HFIT.out.2 ⟨rfl, rfl, h7⟩))
              have HXY : Hid (∀ t j, (X ++ List.replicate t 0 ++ Y).getD j 0 < 65536) := fun t j => getD_three HXV.out HYV.out t j
              obtain ⟨i0, hi, hz0, hz1, hz2'⟩ := info_parts info3
              have HI := Lib.hid (And.intro hi (And.intro hz0 (And.intro hz1 hz2')))
              obtain ⟨ax, cx, rfl⟩ := owns_slice hox
              obtain ⟨ay, cy, rfl⟩ := owns_slice hoy
              have hdis : ∀ g, (Value.slice ay ny cy).ownBlock = some g → (Value.slice ax nx cx).ownBlock ≠ some g := fun g hg e => by
                have h1 := (hoy.lt g hg).1
                have h2 := (hxl g e).2
                omega
              have HDIS := Lib.hid hdis
              obtain ⟨B, hB⟩ : ∃ B, wr.heap.size = B := ⟨_, rfl⟩
              rw [hB] at hox hz2
              have hwB : w.heap.size < B := by rw [← hB]; exact hp0
              have hB3 : B ≤ w3.heap.size := by omega
              clear hi hz0 hz1 hz2' hdis hxl hB HNO HFIT HSIX HXV HYV HD hp0
              go_wp2
              go_loopw [7] (fun v wr => ∃ t : Nat, nx + t + ny ≤ 8 ∧ (∃ a c, v = .slice a (nx + t) c) ∧ Below w.heap.size w wr ∧ B ≤ wr.heap.size ∧ HB wr w.heap.size (ac 0 z0) 25 ∧ wr.ownsRow B 3 1 v (nx + t) (nats (X ++ List.replicate t 0)) ∧
                wr.ownsRow w2.heap.size 3 1 (.slice ay ny cy) ny (nats Y) ∧ ∀ g, (Value.slice ay ny cy).ownBlock = some g → v.ownBlock ≠ some g) (fun v _ => 8 - slen v)
              case atStart => exact ⟨0, by omega, ⟨ax, cx, rfl⟩, hbr, hB3, p0, by simpa using hox, hoy, HDIS.out⟩
              case round =>
                obtain ⟨t, ht, ⟨a, c, rfl⟩, hb4, hB4, p4, hx4, hy4, hdis⟩ := hrel
                clear hbr p0 hox hoy HDIS hB3
                have HDIS := Lib.hid hdis
                clear hdis
                obtain ⟨Z, hZ⟩ : ∃ Z, X ++ List.replicate t 0 = Z := ⟨_, rfl⟩
                rw [hZ] at hx4
                have HZ := Lib.hid hZ
                clear hZ
                obtain ⟨hi, hz0, hz1, hz2'⟩ := HI.out
                by_cases hlt8 : nx + t + ny < 8
                · go_wp2_with (at_builtin; (refine wpList_append_own_at _ rfl _ _ 62 rfl B 3 i0 (.int .i64 0) 1 8 Tryd.underlying62 hi hz0 hz1 hz2' rfl (by decide) _ _ _ rfl (hx4.alloc _) ⟨wr.heap.size, 0, none⟩ 1 1 [.int .i64 0] rfl rfl ?c1 ?c2 ?c3 ?c4 ?c5 ?_))
                  case c1 => exact cell_one_new _ _ _
                  case c2 => simp [Value.oneCell']
                  case c3 => unfold maxLen; omega
                  case c4 => omega
                  case c5 => simp; omega
                  intro v' w5 hown5 hgrow _ hat
                  have hx5 : w5.ownsRow B 3 1 v' (nx + (t + 1)) (nats (X ++ List.replicate (t + 1) 0)) := by
                    have e : nats (X ++ List.replicate (t + 1) 0) = nats Z ++ [.int .i64 0] := by
                      rw [List.replicate_succ', ← List.append_assoc, HZ.out]
                      unfold nats
                      rw [List.map_append]
                      rfl
                    rw [e]
                    exact hown5
                  have hb5 : Below w.heap.size w w5 := by
                    refine (hb4.al _).grown hgrow (by have := hb4.size; simp; omega) (fun g hg => ?_)
                    have := (hx4.lt g hg).1
                    omega
                  have p5 : HB w5 w.heap.size (ac 0 z0) 25 := by
                    refine (hgrow.block _ (by have := p4.lt; simp; omega) (fun e => ?_)).trans (p4.alloc _)
                    have := (hx4.lt _ e.symm).1
                    omega
                  have hB5 : B ≤ w5.heap.size := by have := hgrow.size; simp at this; omega
                  have hy5 : w5.ownsRow w2.heap.size 3 1 (.slice ay ny cy) ny (nats Y) := by
                    refine (hy4.alloc _).kept hgrow ?_
                    cases hyb : (Value.slice ay ny cy).ownBlock with
                    | none => exact .inl rfl
                    | some g => exact .inr fun e => HDIS.out g hyb e.symm
                  have HD5 : Hid (∀ g, (Value.slice ay ny cy).ownBlock = some g → v'.ownBlock ≠ some g) := fun g hg => by
                    rcases hat with h | h
                    · rw [h]; exact HDIS.out g hg
                    · rw [h]
                      have := (hy4.lt g hg).2
                      intro e
                      have := Option.some.inj e
                      omega
                  obtain ⟨a5, c5, rfl⟩ := owns_slice hx5
                  clear hown5 hgrow hat hy4 hx4 p4 hb4 HDIS
                  go_wp2
                  go_roundw
                  case rel => exact ⟨t + 1, by omega, ⟨a5, c5, rfl⟩, hb5, hB5, p5, hx5, hy5, HD5.out⟩
                  case measure => simp [slen]; omega
                · have h8 : nx + t + ny = 8 := by omega
                  have ht8 : t = 8 - nx - ny := by omega
                  have H8 := Lib.hid h8
                  have HT8 := Lib.hid ht8
                  clear h8 ht8
                  rcases hy4.2 with ⟨hnil, hn0⟩ | ⟨gy, capy, curY, hyv, _⟩
                  · injection hnil with e1 e2 e3
                    subst e1 e3
                    subst hn0
                    have hYn : Y = [] := List.eq_nil_of_length_eq_zero HNY.out
                    have hx5 : wr.ownsRow B 3 1 (.slice a (nx + t) c) 8 (nats (X ++ List.replicate t 0 ++ Y)) := by
                      rw [hYn, List.append_nil, HZ.out]
                      have e : nx + t = 8 := H8.out
                      have hx6 := hx4
                      rw [e] at hx6 ⊢
                      exact hx6
                    have HX5 := Lib.hid hx5
                    clear hx5 hy4 hYn
                    go_wp2_with (first
                      | (at_builtin; refine wpList_append_own_none rfl _ _ 62 rfl B 3 i0 1 Tryd.underlying62 hi _ _ _ rfl hx4 rfl ?_)
                      | (go_at_call 36; refine (from_any _ _ _ _ (HXY.out t) HX5.out).mono ?_; rintro e w2 ⟨rfl, hb2⟩; replace p4 := p4.below hb2 p4.lt; replace hb4 := hb4.con hb2) | (refine st25 rfl _ _ rfl _ rfl _ _ _ _ rfl p4 ?_))
                    refine ret25 rfl rfl rfl (p4.row _) (R6_yes ?_ (hb4.row (Nat.le_refl _) _))
                    rw [HL.out, HT8.out]
                    have h := HS.out
                    rw [List.append_assoc] at h
                    exact h
                  · injection hyv with e1 e2 e3
                    subst e1
                    clear e2 e3
                    go_wp2_with (at_builtin; (refine wpList_append_own _ rfl _ _ 62 rfl B 3 i0 (.int .i64 0) 1 8 Tryd.underlying62 hi hz0 hz1 hz2' rfl (by decide) _ _ _ rfl hx4 ⟨gy, 0, none⟩ ny cy (nats Y) rfl ?c0 ?c1 ?c2 ?c3 ?c4 ?c5 ?_))
                    case c0 => rw [List.length_map, HNY.out, Nat.mul_one]
                    case c1 => exact hy4.cells rfl
                    case c2 => exact fun u hu => by obtain ⟨n, _, rfl⟩ := List.mem_map.1 hu; rfl
                    case c3 => unfold maxLen; omega
                    case c4 => omega
                    case c5 => omega
                    intro v' w5 hown5 hgrow _
                    have hx5 : w5.ownsRow B 3 1 v' 8 (nats (X ++ List.replicate t 0 ++ Y)) := by
                      have e : nats (X ++ List.replicate t 0 ++ Y) = nats Z ++ nats Y := by
                        rw [HZ.out]
                        exact List.map_append
                      rw [e, ← H8.out]
                      exact hown5
                    have hb5 : Below w.heap.size w w5 := by
                      refine hb4.grown hgrow (by have := hb4.size; omega) (fun g hg => ?_)
                      have := (hx4.lt g hg).1
                      omega
                    have p5 : HB w5 w.heap.size (ac 0 z0) 25 := by
                      refine (hgrow.block _ p4.lt (fun e => ?_)).trans p4
                      have := (hx4.lt _ e.symm).1
                      omega
                    have HX5 := Lib.hid hx5
                    clear hx5 hown5 hgrow hy4 hx4 p4 hb4
                    go_wp2_with (first
                      | (go_at_call 36; refine (from_any _ _ _ _ (HXY.out t) HX5.out).mono ?_; rintro e w2 ⟨rfl, hb2⟩; replace p5 := p5.below hb2 p5.lt; replace hb5 := hb5.con hb2) | (refine st25 rfl _ _ rfl _ rfl _ _ _ _ rfl p5 ?_))
                    refine ret25 rfl rfl rfl (p5.row _) (R6_yes ?_ (hb5.row (Nat.le_refl _) _))
                    rw [HL.out, HT8.out]
                    have h := HS.out
                    rw [List.append_assoc] at h
                    exact h
            · have HD : Hid (∀ j, j < k + 1 → ¬ fitAt l j) := fun j hj hf => by
                rcases Nat.lt_succ_iff_lt_or_eq.1 hj with h | rfl
                · exact HNO.out j h hf
                · exact hfit (HFIT.out.1 hf)
              have hcase : okx = false ∨ (okx = true ∧ oky = false) ∨ (okx = true ∧ oky = true ∧ 7 < nx + ny) := by
                cases okx
                · exact .inl rfl
                · cases oky
                  · exact .inr (.inl ⟨rfl, rfl⟩)
                  · refine .inr (.inr ⟨rfl, rfl, ?_⟩)
                    rcases Nat.lt_or_ge 7 (nx + ny) with h | h
                    · exact h
                    · exact absurd ⟨rfl, rfl, h⟩ hfit
              obtain ⟨ax, cx, rfl⟩ := owns_slice hox
              obtain ⟨ay, cy, rfl⟩ := owns_slice hoy
              clear hfit hox hoy hxl
              rcases hcase with rfl | ⟨rfl, rfl⟩ | ⟨rfl, rfl, h7⟩
              all_goals
                go_wp2
                go_roundw
                case rel => exact ⟨k + 1, by omega, by go_num, hbr, p0, HD.out⟩
                case measure => simp [intOf]; omega
        · have hf : okSix s.data.toList = false := by
            rw [HL.out]
            refine six_no HW.out fun i hi => HNO.out i ?_
            have := HLN.out
            rw [HL.out] at this
            omega
          have HF := Lib.hid hf
          clear hf
          go_wp2_with (first | (refine bu25z rfl rfl ?_) | (refine st25 rfl _ _ rfl _ rfl _ _ _ _ rfl p0 ?_))
          exact ret25 rfl rfl rfl (p0.row _) (R6_no HF.out (hbr.row (Nat.le_refl _) _))
/-- What the reference's Parse hands back. -/
theorem rparse_any (s : ByteArray) (w : World) (hs : s.size < 4294967281) :
    Calls Tryd.prog 10 #[.string s] w fun e w' => Below w.heap.size w w' ∧
      (hasF s.data.toList 58 = true → R6 s w e w') ∧ (hasF s.data.toList 58 = false → R4 s w e w') := by
  have g0 := HB.new w (ac 0 z0) 25
  have hb0 := (Below.rfl' w).al (adrO 0 z0)
  go_enter Tryd.func10, Tryd.ntmps10
  go_wp2_with (refine al25 rfl rfl ?_)
  refine (has_any s 58 _ hs).mono ?_
  rintro e w1 ⟨rfl, rfl⟩
  cases hh : hasF s.data.toList 58
  · have HH := Lib.hid hh
    clear hh
    go_wp2_with fail
    refine (parse4_any s _ hs).mono ?_
    rintro e w1 ⟨rfl, hb1⟩
    have q0 := g0.below hb1 g0.lt
    have hb := hb0.con hb1
    clear hb0 hb1 g0
    obtain ⟨v, hv⟩ : ∃ v : Int, (if okFour s.data.toList = true then 4 else 0) = v := ⟨_, rfl⟩
    obtain ⟨b, hbb⟩ : ∃ b, (if okFour s.data.toList = true then valFour s.data.toList else z0) = b := ⟨_, rfl⟩
    obtain ⟨x, hx⟩ : ∃ x : Int, (if okFour s.data.toList = true then 0 else 30) = x := ⟨_, rfl⟩
    have HV := Lib.hid (And.intro hv (And.intro hbb hx))
    rw [hv, hbb, hx]
    clear hv hbb hx
    go_wp2_with (refine st25 rfl _ _ rfl _ rfl _ _ _ _ rfl q0 ?_)
    refine ret25 rfl rfl rfl (q0.row _) ⟨hb.row (Nat.le_refl _) _, fun h => (by rw [HH.out] at h; cases h), fun _ => ⟨?_, hb.row (Nat.le_refl _) _⟩⟩
    rw [HV.out.1, HV.out.2.1, HV.out.2.2]
    rfl
  · have HH := Lib.hid hh
    clear hh
    go_wp2_with fail
    refine (parse6_any s _ hs).mono ?_
    rintro e w1 ⟨rfl, hb1⟩
    have q0 := g0.below hb1 g0.lt
    have hb := hb0.con hb1
    clear hb0 hb1 g0
    obtain ⟨v, hv⟩ : ∃ v : Int, (if okSix s.data.toList = true then 6 else 0) = v := ⟨_, rfl⟩
    obtain ⟨b, hbb⟩ : ∃ b, (if okSix s.data.toList = true then valSix s.data.toList else z0) = b := ⟨_, rfl⟩
    obtain ⟨x, hx⟩ : ∃ x : Int, (if okSix s.data.toList = true then 0 else 30) = x := ⟨_, rfl⟩
    have HV := Lib.hid (And.intro hv (And.intro hbb hx))
    rw [hv, hbb, hx]
    clear hv hbb hx
    go_wp2_with (refine st25 rfl _ _ rfl _ rfl _ _ _ _ rfl q0 ?_)
    refine ret25 rfl rfl rfl (q0.row _) ⟨hb.row (Nat.le_refl _) _, fun _ => ⟨?_, hb.row (Nat.le_refl _) _⟩, fun h => (by rw [HH.out] at h; cases h)⟩
    rw [HV.out.1, HV.out.2.1, HV.out.2.2]
    rfl
end Go.Proofs.YtodbjjlgnnjmoaaDoor
