/- AddrBack: walks where the text is none. -/
import Derived.Test.YtodbjjlgnnjmoaaDoorSf
namespace Go.Proofs.YtodbjjlgnnjmoaaDoor
open Go.RowKit
set_option maxRecDepth 100000 in
set_option maxHeartbeats 8000000 in
theorem back_bad_no (v : Int) (b : Nat → Int) (s : ByteArray) (least gap most : Int) (w : World) (m : Int) (he : Env m w)
    (P1 : Hid (∀ W, Env m W → Calls Tryd.prog 9 #[.string s] W fun e w' => e = .returned (.tuple #[adr 0 z0, .int .i64 30]) ∧ Below W.heap.size W w'))
    (P2 : Hid (∀ W, Env m W → Calls Tryd.prog 11 #[adr 0 z0] W fun e w' => e = .returned (.string ⟨#[]⟩) ∧ Below W.heap.size W w'))
    (P3 : Hid (∀ W, Env m W → Calls Tryd.prog 9 #[.string ⟨#[]⟩] W fun e w' => e = .returned (.tuple #[adr 0 z0, .int .i64 30]) ∧ Below W.heap.size W w'))
    (P5 : Hid (∀ W, Calls Tryd.prog 12 #[adr v b] W fun e w' => e = .returned (.bool false) ∧ Below W.heap.size W w'))
    (P6 : Hid (∀ W, Env m W → Calls Tryd.prog 11 #[adr v b] W fun e w' => e = .returned (.string ⟨#[]⟩) ∧ Below W.heap.size W w')) :
    Calls Tryd.prog 4 #[adr v b, .string s, .int .i64 least, .int .i64 gap, .int .i64 most] w fun e w' => e = .returned (.bool true) ∧ Below w.heap.size w w' := by
  have hS := NS.start1 he v b
  have E25 := eq25
  have N25 := ne25
  have Z := eqA_self 0 z0
  have ZA := eqA_self v b
  go_enter Tryd.func4, Tryd.ntmps4
  go_wp2_with fail
  refine (alive_any _ m hS.he).mono ?_
  rintro e w' ⟨rfl, hb'⟩
  replace hS := hS.keep hb'
  clear hb'
  go_wp2_with (first
    | (refine ld25 rfl _ rfl _ rfl _ _ hS.at0 ?_) | (refine ld25 rfl _ rfl _ rfl _ _ hS.at1 ?_) | (refine ld25 rfl _ rfl _ rfl _ _ hS.at2 ?_) | (refine ld25 rfl _ rfl _ rfl _ _ hS.at3 ?_)
    | (refine ld25g rfl _ rfl _ rfl _ _ hS.at0 ?_) | (refine ld25g rfl _ rfl _ rfl _ _ hS.at1 ?_) | (refine ld25g rfl _ rfl _ rfl _ _ hS.at2 ?_) | (refine ld25g rfl _ rfl _ rfl _ _ hS.at3 ?_)
    | (refine al25 rfl rfl ?_) | (refine st25 rfl _ _ rfl _ rfl _ _ _ _ rfl (HB.new _ _ _) ?_; rw [World.setRow_alloc_new]) | (refine bu25zg rfl rfl ?_))
  refine (P1.out _ hS.he).mono ?_
  rintro e w' ⟨rfl, hb'⟩
  replace hS := (hS.keep hb').add 0 z0
  clear hb'
  go_wp2_with (first
    | (refine ld25 rfl _ rfl _ rfl _ _ hS.at0 ?_) | (refine ld25 rfl _ rfl _ rfl _ _ hS.at1 ?_) | (refine ld25 rfl _ rfl _ rfl _ _ hS.at2 ?_) | (refine ld25 rfl _ rfl _ rfl _ _ hS.at3 ?_)
    | (refine ld25g rfl _ rfl _ rfl _ _ hS.at0 ?_) | (refine ld25g rfl _ rfl _ rfl _ _ hS.at1 ?_) | (refine ld25g rfl _ rfl _ rfl _ _ hS.at2 ?_) | (refine ld25g rfl _ rfl _ rfl _ _ hS.at3 ?_)
    | (refine al25 rfl rfl ?_) | (refine st25 rfl _ _ rfl _ rfl _ _ _ _ rfl (HB.new _ _ _) ?_; rw [World.setRow_alloc_new]) | (refine bu25zg rfl rfl ?_))
  refine (P2.out _ hS.he).mono ?_
  rintro e w' ⟨rfl, hb'⟩
  replace hS := hS.keep hb'
  clear hb'
  go_wp2_with (first
    | (refine ld25 rfl _ rfl _ rfl _ _ hS.at0 ?_) | (refine ld25 rfl _ rfl _ rfl _ _ hS.at1 ?_) | (refine ld25 rfl _ rfl _ rfl _ _ hS.at2 ?_) | (refine ld25 rfl _ rfl _ rfl _ _ hS.at3 ?_)
    | (refine ld25g rfl _ rfl _ rfl _ _ hS.at0 ?_) | (refine ld25g rfl _ rfl _ rfl _ _ hS.at1 ?_) | (refine ld25g rfl _ rfl _ rfl _ _ hS.at2 ?_) | (refine ld25g rfl _ rfl _ rfl _ _ hS.at3 ?_)
    | (refine al25 rfl rfl ?_) | (refine st25 rfl _ _ rfl _ rfl _ _ _ _ rfl (HB.new _ _ _) ?_; rw [World.setRow_alloc_new]) | (refine bu25zg rfl rfl ?_))
  refine (P3.out _ hS.he).mono ?_
  rintro e w' ⟨rfl, hb'⟩
  replace hS := (hS.keep hb').add 0 z0
  clear hb'
  go_wp2_with (first
    | (refine ld25 rfl _ rfl _ rfl _ _ hS.at0 ?_) | (refine ld25 rfl _ rfl _ rfl _ _ hS.at1 ?_) | (refine ld25 rfl _ rfl _ rfl _ _ hS.at2 ?_) | (refine ld25 rfl _ rfl _ rfl _ _ hS.at3 ?_)
    | (refine ld25g rfl _ rfl _ rfl _ _ hS.at0 ?_) | (refine ld25g rfl _ rfl _ rfl _ _ hS.at1 ?_) | (refine ld25g rfl _ rfl _ rfl _ _ hS.at2 ?_) | (refine ld25g rfl _ rfl _ rfl _ _ hS.at3 ?_)
    | (refine al25 rfl rfl ?_) | (refine st25 rfl _ _ rfl _ rfl _ _ _ _ rfl (HB.new _ _ _) ?_; rw [World.setRow_alloc_new]) | (refine bu25zg rfl rfl ?_))
  refine (P5.out _).mono ?_
  rintro e w' ⟨rfl, hb'⟩
  replace hS := hS.keep hb'
  clear hb'
  go_wp2_with (first
    | (refine ld25 rfl _ rfl _ rfl _ _ hS.at0 ?_) | (refine ld25 rfl _ rfl _ rfl _ _ hS.at1 ?_) | (refine ld25 rfl _ rfl _ rfl _ _ hS.at2 ?_) | (refine ld25 rfl _ rfl _ rfl _ _ hS.at3 ?_)
    | (refine ld25g rfl _ rfl _ rfl _ _ hS.at0 ?_) | (refine ld25g rfl _ rfl _ rfl _ _ hS.at1 ?_) | (refine ld25g rfl _ rfl _ rfl _ _ hS.at2 ?_) | (refine ld25g rfl _ rfl _ rfl _ _ hS.at3 ?_)
    | (refine al25 rfl rfl ?_) | (refine st25 rfl _ _ rfl _ rfl _ _ _ _ rfl (HB.new _ _ _) ?_; rw [World.setRow_alloc_new]) | (refine bu25zg rfl rfl ?_))
  refine (P6.out _ hS.he).mono ?_
  rintro e w' ⟨rfl, hb'⟩
  replace hS := hS.keep hb'
  clear hb'
  go_wp2_with (first
    | (refine ld25 rfl _ rfl _ rfl _ _ hS.at0 ?_) | (refine ld25 rfl _ rfl _ rfl _ _ hS.at1 ?_) | (refine ld25 rfl _ rfl _ rfl _ _ hS.at2 ?_) | (refine ld25 rfl _ rfl _ rfl _ _ hS.at3 ?_)
    | (refine ld25g rfl _ rfl _ rfl _ _ hS.at0 ?_) | (refine ld25g rfl _ rfl _ rfl _ _ hS.at1 ?_) | (refine ld25g rfl _ rfl _ rfl _ _ hS.at2 ?_) | (refine ld25g rfl _ rfl _ rfl _ _ hS.at3 ?_)
    | (refine al25 rfl rfl ?_) | (refine st25 rfl _ _ rfl _ rfl _ _ _ _ rfl (HB.new _ _ _) ?_; rw [World.setRow_alloc_new]) | (refine bu25zg rfl rfl ?_))
  go_ret
  exact ⟨rfl, hS.hb⟩
set_option maxRecDepth 100000 in
set_option maxHeartbeats 8000000 in
theorem back_bad_4 (b : Nat → Int) (s : ByteArray) (least gap most : Int) (w : World) (m : Int) (ta : List UInt8) (he : Env m w)
    (P1 : Hid (∀ W, Env m W → Calls Tryd.prog 9 #[.string s] W fun e w' => e = .returned (.tuple #[adr 0 z0, .int .i64 30]) ∧ Below W.heap.size W w'))
    (P2 : Hid (∀ W, Env m W → Calls Tryd.prog 11 #[adr 0 z0] W fun e w' => e = .returned (.string ⟨#[]⟩) ∧ Below W.heap.size W w'))
    (P3 : Hid (∀ W, Env m W → Calls Tryd.prog 9 #[.string ⟨#[]⟩] W fun e w' => e = .returned (.tuple #[adr 0 z0, .int .i64 30]) ∧ Below W.heap.size W w'))
    (P5 : Hid (∀ W, Calls Tryd.prog 12 #[adr 4 b] W fun e w' => e = .returned (.bool true) ∧ Below W.heap.size W w'))
    (P6 : Hid (∀ W, Env m W → Calls Tryd.prog 11 #[adr 4 b] W fun e w' => e = .returned (.string ⟨ta.toArray⟩) ∧ Below W.heap.size W w'))
    (P7 : Hid (∀ W, Env m W → Calls Tryd.prog 9 #[.string ⟨ta.toArray⟩] W fun e w' => e = .returned (.tuple #[adr 4 b, .int .i64 0]) ∧ Below W.heap.size W w')) :
    Calls Tryd.prog 4 #[adr 4 b, .string s, .int .i64 least, .int .i64 gap, .int .i64 most] w fun e w' => e = .returned (.bool true) ∧ Below w.heap.size w w' := by
  have hS := NS.start1 he 4 b
  have E25 := eq25
  have N25 := ne25
  have Z := eqA_self 0 z0
  have ZA := eqA_self 4 b
  go_enter Tryd.func4, Tryd.ntmps4
  go_wp2_with fail
  refine (alive_any _ m hS.he).mono ?_
  rintro e w' ⟨rfl, hb'⟩
  replace hS := hS.keep hb'
  clear hb'
  go_wp2_with (first
    | (refine ld25 rfl _ rfl _ rfl _ _ hS.at0 ?_) | (refine ld25 rfl _ rfl _ rfl _ _ hS.at1 ?_) | (refine ld25 rfl _ rfl _ rfl _ _ hS.at2 ?_) | (refine ld25 rfl _ rfl _ rfl _ _ hS.at3 ?_)
    | (refine ld25g rfl _ rfl _ rfl _ _ hS.at0 ?_) | (refine ld25g rfl _ rfl _ rfl _ _ hS.at1 ?_) | (refine ld25g rfl _ rfl _ rfl _ _ hS.at2 ?_) | (refine ld25g rfl _ rfl _ rfl _ _ hS.at3 ?_)
    | (refine al25 rfl rfl ?_) | (refine st25 rfl _ _ rfl _ rfl _ _ _ _ rfl (HB.new _ _ _) ?_; rw [World.setRow_alloc_new]) | (refine bu25zg rfl rfl ?_))
  refine (P1.out _ hS.he).mono ?_
  rintro e w' ⟨rfl, hb'⟩
  replace hS := (hS.keep hb').add 0 z0
  clear hb'
  go_wp2_with (first
    | (refine ld25 rfl _ rfl _ rfl _ _ hS.at0 ?_) | (refine ld25 rfl _ rfl _ rfl _ _ hS.at1 ?_) | (refine ld25 rfl _ rfl _ rfl _ _ hS.at2 ?_) | (refine ld25 rfl _ rfl _ rfl _ _ hS.at3 ?_)
    | (refine ld25g rfl _ rfl _ rfl _ _ hS.at0 ?_) | (refine ld25g rfl _ rfl _ rfl _ _ hS.at1 ?_) | (refine ld25g rfl _ rfl _ rfl _ _ hS.at2 ?_) | (refine ld25g rfl _ rfl _ rfl _ _ hS.at3 ?_)
    | (refine al25 rfl rfl ?_) | (refine st25 rfl _ _ rfl _ rfl _ _ _ _ rfl (HB.new _ _ _) ?_; rw [World.setRow_alloc_new]) | (refine bu25zg rfl rfl ?_))
  refine (P2.out _ hS.he).mono ?_
  rintro e w' ⟨rfl, hb'⟩
  replace hS := hS.keep hb'
  clear hb'
  go_wp2_with (first
    | (refine ld25 rfl _ rfl _ rfl _ _ hS.at0 ?_) | (refine ld25 rfl _ rfl _ rfl _ _ hS.at1 ?_) | (refine ld25 rfl _ rfl _ rfl _ _ hS.at2 ?_) | (refine ld25 rfl _ rfl _ rfl _ _ hS.at3 ?_)
    | (refine ld25g rfl _ rfl _ rfl _ _ hS.at0 ?_) | (refine ld25g rfl _ rfl _ rfl _ _ hS.at1 ?_) | (refine ld25g rfl _ rfl _ rfl _ _ hS.at2 ?_) | (refine ld25g rfl _ rfl _ rfl _ _ hS.at3 ?_)
    | (refine al25 rfl rfl ?_) | (refine st25 rfl _ _ rfl _ rfl _ _ _ _ rfl (HB.new _ _ _) ?_; rw [World.setRow_alloc_new]) | (refine bu25zg rfl rfl ?_))
  refine (P3.out _ hS.he).mono ?_
  rintro e w' ⟨rfl, hb'⟩
  replace hS := (hS.keep hb').add 0 z0
  clear hb'
  go_wp2_with (first
    | (refine ld25 rfl _ rfl _ rfl _ _ hS.at0 ?_) | (refine ld25 rfl _ rfl _ rfl _ _ hS.at1 ?_) | (refine ld25 rfl _ rfl _ rfl _ _ hS.at2 ?_) | (refine ld25 rfl _ rfl _ rfl _ _ hS.at3 ?_)
    | (refine ld25g rfl _ rfl _ rfl _ _ hS.at0 ?_) | (refine ld25g rfl _ rfl _ rfl _ _ hS.at1 ?_) | (refine ld25g rfl _ rfl _ rfl _ _ hS.at2 ?_) | (refine ld25g rfl _ rfl _ rfl _ _ hS.at3 ?_)
    | (refine al25 rfl rfl ?_) | (refine st25 rfl _ _ rfl _ rfl _ _ _ _ rfl (HB.new _ _ _) ?_; rw [World.setRow_alloc_new]) | (refine bu25zg rfl rfl ?_))
  refine (P5.out _).mono ?_
  rintro e w' ⟨rfl, hb'⟩
  replace hS := hS.keep hb'
  clear hb'
  go_wp2_with (first
    | (refine ld25 rfl _ rfl _ rfl _ _ hS.at0 ?_) | (refine ld25 rfl _ rfl _ rfl _ _ hS.at1 ?_) | (refine ld25 rfl _ rfl _ rfl _ _ hS.at2 ?_) | (refine ld25 rfl _ rfl _ rfl _ _ hS.at3 ?_)
    | (refine ld25g rfl _ rfl _ rfl _ _ hS.at0 ?_) | (refine ld25g rfl _ rfl _ rfl _ _ hS.at1 ?_) | (refine ld25g rfl _ rfl _ rfl _ _ hS.at2 ?_) | (refine ld25g rfl _ rfl _ rfl _ _ hS.at3 ?_)
    | (refine al25 rfl rfl ?_) | (refine st25 rfl _ _ rfl _ rfl _ _ _ _ rfl (HB.new _ _ _) ?_; rw [World.setRow_alloc_new]) | (refine bu25zg rfl rfl ?_))
  refine (P6.out _ hS.he).mono ?_
  rintro e w' ⟨rfl, hb'⟩
  replace hS := hS.keep hb'
  clear hb'
  go_wp2_with (first
    | (refine ld25 rfl _ rfl _ rfl _ _ hS.at0 ?_) | (refine ld25 rfl _ rfl _ rfl _ _ hS.at1 ?_) | (refine ld25 rfl _ rfl _ rfl _ _ hS.at2 ?_) | (refine ld25 rfl _ rfl _ rfl _ _ hS.at3 ?_)
    | (refine ld25g rfl _ rfl _ rfl _ _ hS.at0 ?_) | (refine ld25g rfl _ rfl _ rfl _ _ hS.at1 ?_) | (refine ld25g rfl _ rfl _ rfl _ _ hS.at2 ?_) | (refine ld25g rfl _ rfl _ rfl _ _ hS.at3 ?_)
    | (refine al25 rfl rfl ?_) | (refine st25 rfl _ _ rfl _ rfl _ _ _ _ rfl (HB.new _ _ _) ?_; rw [World.setRow_alloc_new]) | (refine bu25zg rfl rfl ?_))
  refine (P7.out _ hS.he).mono ?_
  rintro e w' ⟨rfl, hb'⟩
  replace hS := (hS.keep hb').add 4 b
  clear hb'
  have hv := (hS.rows (w.heap.size, 4, b) (by simp)).adrV
  go_wp2_with (first
    | (refine ld25 rfl _ rfl _ rfl _ _ hS.at0 ?_) | (refine ld25 rfl _ rfl _ rfl _ _ hS.at1 ?_) | (refine ld25 rfl _ rfl _ rfl _ _ hS.at2 ?_) | (refine ld25 rfl _ rfl _ rfl _ _ hS.at3 ?_)
    | (refine ld25g rfl _ rfl _ rfl _ _ hS.at0 ?_) | (refine ld25g rfl _ rfl _ rfl _ _ hS.at1 ?_) | (refine ld25g rfl _ rfl _ rfl _ _ hS.at2 ?_) | (refine ld25g rfl _ rfl _ rfl _ _ hS.at3 ?_)
    | (refine al25 rfl rfl ?_) | (refine st25 rfl _ _ rfl _ rfl _ _ _ _ rfl (HB.new _ _ _) ?_; rw [World.setRow_alloc_new]) | (refine bu25zg rfl rfl ?_))
  go_ret
  exact ⟨rfl, hS.hb⟩
set_option maxRecDepth 100000 in
set_option maxHeartbeats 8000000 in
theorem back_bad_6 (b : Nat → Int) (s : ByteArray) (least gap most : Int) (w : World) (m : Int) (ta : List UInt8) (l1 g1 m1 : Nat) (tl : Bool → List UInt8) (he : Env m w)
    (P1 : Hid (∀ W, Env m W → Calls Tryd.prog 9 #[.string s] W fun e w' => e = .returned (.tuple #[adr 0 z0, .int .i64 30]) ∧ Below W.heap.size W w'))
    (P2 : Hid (∀ W, Env m W → Calls Tryd.prog 11 #[adr 0 z0] W fun e w' => e = .returned (.string ⟨#[]⟩) ∧ Below W.heap.size W w'))
    (P3 : Hid (∀ W, Env m W → Calls Tryd.prog 9 #[.string ⟨#[]⟩] W fun e w' => e = .returned (.tuple #[adr 0 z0, .int .i64 30]) ∧ Below W.heap.size W w'))
    (P5 : Hid (∀ W, Calls Tryd.prog 12 #[adr 6 b] W fun e w' => e = .returned (.bool true) ∧ Below W.heap.size W w'))
    (P6 : Hid (∀ W, Env m W → Calls Tryd.prog 11 #[adr 6 b] W fun e w' => e = .returned (.string ⟨ta.toArray⟩) ∧ Below W.heap.size W w'))
    (P7 : Hid (∀ W, Env m W → Calls Tryd.prog 9 #[.string ⟨ta.toArray⟩] W fun e w' => e = .returned (.tuple #[adr 6 b, .int .i64 0]) ∧ Below W.heap.size W w'))
    (e1 : Hid (wrap64 (1 + wrap64 ((IntKind.u64.wrap least).tmod 4)) = l1)) (e2 : Hid (wrap64 ((IntKind.u64.wrap gap).tmod 8) = g1)) (e3 : Hid (wrap64 ((IntKind.u64.wrap most).tmod 9) = m1))
    (P8 : Hid (∀ up W, Calls Tryd.prog 13 #[adr 6 b, .int .i64 l1, .bool up, .int .i64 g1, .int .i64 m1] W fun e w' => e = .returned (.string ⟨(tl up).toArray⟩) ∧ Below W.heap.size W w'))
    (P9 : Hid (∀ up W, Env m W → Calls Tryd.prog 9 #[.string ⟨(tl up).toArray⟩] W fun e w' => e = .returned (.tuple #[adr 6 b, .int .i64 0]) ∧ Below W.heap.size W w')) :
    Calls Tryd.prog 4 #[adr 6 b, .string s, .int .i64 least, .int .i64 gap, .int .i64 most] w fun e w' => e = .returned (.bool true) ∧ Below w.heap.size w w' := by
  have hS := NS.start1 he 6 b
  have E25 := eq25
  have N25 := ne25
  have Z := eqA_self 0 z0
  have ZA := eqA_self 6 b
  go_enter Tryd.func4, Tryd.ntmps4
  go_wp2_with fail
  refine (alive_any _ m hS.he).mono ?_
  rintro e w' ⟨rfl, hb'⟩
  replace hS := hS.keep hb'
  clear hb'
  go_wp2_with (first
    | (refine ld25 rfl _ rfl _ rfl _ _ hS.at0 ?_) | (refine ld25 rfl _ rfl _ rfl _ _ hS.at1 ?_) | (refine ld25 rfl _ rfl _ rfl _ _ hS.at2 ?_) | (refine ld25 rfl _ rfl _ rfl _ _ hS.at3 ?_)
    | (refine ld25g rfl _ rfl _ rfl _ _ hS.at0 ?_) | (refine ld25g rfl _ rfl _ rfl _ _ hS.at1 ?_) | (refine ld25g rfl _ rfl _ rfl _ _ hS.at2 ?_) | (refine ld25g rfl _ rfl _ rfl _ _ hS.at3 ?_)
    | (refine al25 rfl rfl ?_) | (refine st25 rfl _ _ rfl _ rfl _ _ _ _ rfl (HB.new _ _ _) ?_; rw [World.setRow_alloc_new]) | (refine bu25zg rfl rfl ?_))
  refine (P1.out _ hS.he).mono ?_
  rintro e w' ⟨rfl, hb'⟩
  replace hS := (hS.keep hb').add 0 z0
  clear hb'
  go_wp2_with (first
    | (refine ld25 rfl _ rfl _ rfl _ _ hS.at0 ?_) | (refine ld25 rfl _ rfl _ rfl _ _ hS.at1 ?_) | (refine ld25 rfl _ rfl _ rfl _ _ hS.at2 ?_) | (refine ld25 rfl _ rfl _ rfl _ _ hS.at3 ?_)
    | (refine ld25g rfl _ rfl _ rfl _ _ hS.at0 ?_) | (refine ld25g rfl _ rfl _ rfl _ _ hS.at1 ?_) | (refine ld25g rfl _ rfl _ rfl _ _ hS.at2 ?_) | (refine ld25g rfl _ rfl _ rfl _ _ hS.at3 ?_)
    | (refine al25 rfl rfl ?_) | (refine st25 rfl _ _ rfl _ rfl _ _ _ _ rfl (HB.new _ _ _) ?_; rw [World.setRow_alloc_new]) | (refine bu25zg rfl rfl ?_))
  refine (P2.out _ hS.he).mono ?_
  rintro e w' ⟨rfl, hb'⟩
  replace hS := hS.keep hb'
  clear hb'
  go_wp2_with (first
    | (refine ld25 rfl _ rfl _ rfl _ _ hS.at0 ?_) | (refine ld25 rfl _ rfl _ rfl _ _ hS.at1 ?_) | (refine ld25 rfl _ rfl _ rfl _ _ hS.at2 ?_) | (refine ld25 rfl _ rfl _ rfl _ _ hS.at3 ?_)
    | (refine ld25g rfl _ rfl _ rfl _ _ hS.at0 ?_) | (refine ld25g rfl _ rfl _ rfl _ _ hS.at1 ?_) | (refine ld25g rfl _ rfl _ rfl _ _ hS.at2 ?_) | (refine ld25g rfl _ rfl _ rfl _ _ hS.at3 ?_)
    | (refine al25 rfl rfl ?_) | (refine st25 rfl _ _ rfl _ rfl _ _ _ _ rfl (HB.new _ _ _) ?_; rw [World.setRow_alloc_new]) | (refine bu25zg rfl rfl ?_))
  refine (P3.out _ hS.he).mono ?_
  rintro e w' ⟨rfl, hb'⟩
  replace hS := (hS.keep hb').add 0 z0
  clear hb'
  go_wp2_with (first
    | (refine ld25 rfl _ rfl _ rfl _ _ hS.at0 ?_) | (refine ld25 rfl _ rfl _ rfl _ _ hS.at1 ?_) | (refine ld25 rfl _ rfl _ rfl _ _ hS.at2 ?_) | (refine ld25 rfl _ rfl _ rfl _ _ hS.at3 ?_)
    | (refine ld25g rfl _ rfl _ rfl _ _ hS.at0 ?_) | (refine ld25g rfl _ rfl _ rfl _ _ hS.at1 ?_) | (refine ld25g rfl _ rfl _ rfl _ _ hS.at2 ?_) | (refine ld25g rfl _ rfl _ rfl _ _ hS.at3 ?_)
    | (refine al25 rfl rfl ?_) | (refine st25 rfl _ _ rfl _ rfl _ _ _ _ rfl (HB.new _ _ _) ?_; rw [World.setRow_alloc_new]) | (refine bu25zg rfl rfl ?_))
  refine (P5.out _).mono ?_
  rintro e w' ⟨rfl, hb'⟩
  replace hS := hS.keep hb'
  clear hb'
  go_wp2_with (first
    | (refine ld25 rfl _ rfl _ rfl _ _ hS.at0 ?_) | (refine ld25 rfl _ rfl _ rfl _ _ hS.at1 ?_) | (refine ld25 rfl _ rfl _ rfl _ _ hS.at2 ?_) | (refine ld25 rfl _ rfl _ rfl _ _ hS.at3 ?_)
    | (refine ld25g rfl _ rfl _ rfl _ _ hS.at0 ?_) | (refine ld25g rfl _ rfl _ rfl _ _ hS.at1 ?_) | (refine ld25g rfl _ rfl _ rfl _ _ hS.at2 ?_) | (refine ld25g rfl _ rfl _ rfl _ _ hS.at3 ?_)
    | (refine al25 rfl rfl ?_) | (refine st25 rfl _ _ rfl _ rfl _ _ _ _ rfl (HB.new _ _ _) ?_; rw [World.setRow_alloc_new]) | (refine bu25zg rfl rfl ?_))
  refine (P6.out _ hS.he).mono ?_
  rintro e w' ⟨rfl, hb'⟩
  replace hS := hS.keep hb'
  clear hb'
  go_wp2_with (first
    | (refine ld25 rfl _ rfl _ rfl _ _ hS.at0 ?_) | (refine ld25 rfl _ rfl _ rfl _ _ hS.at1 ?_) | (refine ld25 rfl _ rfl _ rfl _ _ hS.at2 ?_) | (refine ld25 rfl _ rfl _ rfl _ _ hS.at3 ?_)
    | (refine ld25g rfl _ rfl _ rfl _ _ hS.at0 ?_) | (refine ld25g rfl _ rfl _ rfl _ _ hS.at1 ?_) | (refine ld25g rfl _ rfl _ rfl _ _ hS.at2 ?_) | (refine ld25g rfl _ rfl _ rfl _ _ hS.at3 ?_)
    | (refine al25 rfl rfl ?_) | (refine st25 rfl _ _ rfl _ rfl _ _ _ _ rfl (HB.new _ _ _) ?_; rw [World.setRow_alloc_new]) | (refine bu25zg rfl rfl ?_))
  refine (P7.out _ hS.he).mono ?_
  rintro e w' ⟨rfl, hb'⟩
  replace hS := (hS.keep hb').add 6 b
  clear hb'
  have hv := (hS.rows (w.heap.size, 6, b) (by simp)).adrV
  go_wp2_with (first
    | (refine ld25 rfl _ rfl _ rfl _ _ hS.at0 ?_) | (refine ld25 rfl _ rfl _ rfl _ _ hS.at1 ?_) | (refine ld25 rfl _ rfl _ rfl _ _ hS.at2 ?_) | (refine ld25 rfl _ rfl _ rfl _ _ hS.at3 ?_)
    | (refine ld25g rfl _ rfl _ rfl _ _ hS.at0 ?_) | (refine ld25g rfl _ rfl _ rfl _ _ hS.at1 ?_) | (refine ld25g rfl _ rfl _ rfl _ _ hS.at2 ?_) | (refine ld25g rfl _ rfl _ rfl _ _ hS.at3 ?_)
    | (refine al25 rfl rfl ?_) | (refine st25 rfl _ _ rfl _ rfl _ _ _ _ rfl (HB.new _ _ _) ?_; rw [World.setRow_alloc_new]) | (refine bu25zg rfl rfl ?_))
  rw [e1.out, e2.out, e3.out]
  have hS0 : NS w m [(w.heap.size, 6, b)] (_ : World) := ⟨fun r hr => hS.rows r (by simp at hr ⊢; exact .inr (.inr (.inr hr))), hS.he, hS.hb⟩
  clear hS hv
  go_loopw [18] (fun i wr => ∃ k : Nat, k ≤ 2 ∧ i = .int .i64 k ∧ NS w m [(w.heap.size, 6, b)] wr) (fun i _ => 2 - (intOf i).toNat)
  case atStart => exact ⟨0, by omega, rfl, hS0⟩
  case round =>
    obtain ⟨k, hk, rfl, hS⟩ := hrel
    clear hS0
    by_cases hlt : k < 2
    · rcases (by omega : k = 0 ∨ k = 1) with rfl | rfl
      all_goals
        go_wp2_with (first
          | (refine ld25 rfl _ rfl _ rfl _ _ hS.at0 ?_) | (refine ld25 rfl _ rfl _ rfl _ _ hS.at1 ?_) | (refine ld25 rfl _ rfl _ rfl _ _ hS.at2 ?_) | (refine ld25 rfl _ rfl _ rfl _ _ hS.at3 ?_)
          | (refine ld25g rfl _ rfl _ rfl _ _ hS.at0 ?_) | (refine ld25g rfl _ rfl _ rfl _ _ hS.at1 ?_) | (refine ld25g rfl _ rfl _ rfl _ _ hS.at2 ?_) | (refine ld25g rfl _ rfl _ rfl _ _ hS.at3 ?_)
          | (refine al25 rfl rfl ?_) | (refine st25 rfl _ _ rfl _ rfl _ _ _ _ rfl (HB.new _ _ _) ?_; rw [World.setRow_alloc_new]) | (refine bu25zg rfl rfl ?_))
        refine (P8.out _ _).mono ?_
        rintro e w' ⟨rfl, hb'⟩
        replace hS := hS.keep hb'
        clear hb'
        go_wp2_with (first
          | (refine ld25 rfl _ rfl _ rfl _ _ hS.at0 ?_) | (refine ld25 rfl _ rfl _ rfl _ _ hS.at1 ?_) | (refine ld25 rfl _ rfl _ rfl _ _ hS.at2 ?_) | (refine ld25 rfl _ rfl _ rfl _ _ hS.at3 ?_)
          | (refine ld25g rfl _ rfl _ rfl _ _ hS.at0 ?_) | (refine ld25g rfl _ rfl _ rfl _ _ hS.at1 ?_) | (refine ld25g rfl _ rfl _ rfl _ _ hS.at2 ?_) | (refine ld25g rfl _ rfl _ rfl _ _ hS.at3 ?_)
          | (refine al25 rfl rfl ?_) | (refine st25 rfl _ _ rfl _ rfl _ _ _ _ rfl (HB.new _ _ _) ?_; rw [World.setRow_alloc_new]) | (refine bu25zg rfl rfl ?_))
        refine (P9.out _ _ hS.he).mono ?_
        rintro e w' ⟨rfl, hb'⟩
        replace hS := (hS.keep hb').add 6 b
        clear hb'
        go_wp2_with (first
          | (refine ld25 rfl _ rfl _ rfl _ _ hS.at0 ?_) | (refine ld25 rfl _ rfl _ rfl _ _ hS.at1 ?_) | (refine ld25 rfl _ rfl _ rfl _ _ hS.at2 ?_) | (refine ld25 rfl _ rfl _ rfl _ _ hS.at3 ?_)
          | (refine ld25g rfl _ rfl _ rfl _ _ hS.at0 ?_) | (refine ld25g rfl _ rfl _ rfl _ _ hS.at1 ?_) | (refine ld25g rfl _ rfl _ rfl _ _ hS.at2 ?_) | (refine ld25g rfl _ rfl _ rfl _ _ hS.at3 ?_)
          | (refine al25 rfl rfl ?_) | (refine st25 rfl _ _ rfl _ rfl _ _ _ _ rfl (HB.new _ _ _) ?_; rw [World.setRow_alloc_new]) | (refine bu25zg rfl rfl ?_))
        go_roundw
        case rel => first | exact ⟨1, by omega, by go_num, ⟨fun r hr => hS.rows r (by simp at hr ⊢; exact .inr hr), hS.he, hS.hb⟩⟩ | exact ⟨2, by omega, by go_num, ⟨fun r hr => hS.rows r (by simp at hr ⊢; exact .inr hr), hS.he, hS.hb⟩⟩
        case measure => simp [intOf]
    · go_wp2
      go_ret
      exact ⟨rfl, hS.hb⟩
end Go.Proofs.YtodbjjlgnnjmoaaDoor
