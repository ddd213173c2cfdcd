/- AddrNets: walks where the first mask stands. -/
import Derived.Test.YtodbjjlgnnjmoaaDoorAu
namespace Go.Proofs.YtodbjjlgnnjmoaaDoor
open Go.RowKit
set_option maxRecDepth 100000 in
set_option maxHeartbeats 8000000 in
theorem nets_4_neg (v' : Int) (b b' : Nat → Int) (n k F yv zv wv H : Int) (yb zb wb : Nat → Int) (I : Bool) (w : World) (m : Int) (he : Env m w)
    (C1 : Hid (∀ W, Calls Tryd.prog 15 #[adr 4 b, .int .i64 n] W fun e w' => e = .returned (.tuple #[adr 4 (maskF n b), .int .i64 0]) ∧ Below W.heap.size W w'))
    (C2 : Hid (∀ W, Calls Tryd.prog 15 #[adr v' b', .int .i64 n] W fun e w' => e = .returned (.tuple #[adr yv yb, .int .i64 F]) ∧ Below W.heap.size W w'))
    (C3 : Hid (∀ W, Calls Tryd.prog 15 #[adr 4 (maskF n b), .int .i64 k] W fun e w' => e = .returned (.tuple #[adr zv zb, .int .i64 1]) ∧ Below W.heap.size W w'))
    (C4 : Hid (∀ W, Calls Tryd.prog 15 #[adr 4 b, .int .i64 (min n k)] W fun e w' => e = .returned (.tuple #[adr wv wb, .int .i64 H]) ∧ Below W.heap.size W w'))
    (hF : (F = 1 ∧ I = false) ∨ (F = 0 ∧ eqA 4 (maskF n b) yv yb = I)) (I1 : withinF 4 b v' b' n = I) (I2 : withinF v' b' 4 b n = I)
    (hk : k < 0) :
    Calls Tryd.prog 6 #[adr 4 b, adr v' b', .int .i64 n, .int .i64 k] w fun e w' => e = .returned (.bool true) ∧ Below w.heap.size w w' := by
  have hS := NS.start he 4 v' b b'
  have E25 := eq25
  have N25 := ne25
  have mk1 : Hid True := trivial
  have mk2 : Hid True := trivial
  have mk3 : Hid True := trivial
  have mk4 : Hid True := trivial
  rcases hF with ⟨rfl, rfl⟩ | ⟨rfl, hI⟩
  · go_enter Tryd.func6, Tryd.ntmps6
    go_wp2_with fail
    refine (alive_any _ m hS.he).mono ?_
    rintro e w1 ⟨rfl, hb1⟩
    replace hS := hS.keep hb1
    clear hb1 he
    go_wp2_with (first
    | (refine ld25 rfl _ rfl _ rfl _ _ hS.at0 ?_) | (refine ld25 rfl _ rfl _ rfl _ _ hS.at1 ?_) | (refine ld25 rfl _ rfl _ rfl _ _ hS.at2 ?_) | (refine ld25 rfl _ rfl _ rfl _ _ hS.at3 ?_) | (refine ld25 rfl _ rfl _ rfl _ _ hS.at4 ?_)
    | (refine ld25g rfl _ rfl _ rfl _ _ hS.at0 ?_) | (refine ld25g rfl _ rfl _ rfl _ _ hS.at1 ?_) | (refine ld25g rfl _ rfl _ rfl _ _ hS.at2 ?_) | (refine ld25g rfl _ rfl _ rfl _ _ hS.at3 ?_) | (refine ld25g rfl _ rfl _ rfl _ _ hS.at4 ?_) | (refine ld25g rfl _ rfl _ rfl _ _ hS.at5 ?_)
    | (go_at_call 15; clear mk1; refine (C1.out _).mono ?_; rintro e w' ⟨rfl, hb'⟩; replace hS := (hS.keep hb').add 4 (maskF n b); clear hb')
    | (go_at_call 15; clear mk2; refine (C2.out _).mono ?_; rintro e w' ⟨rfl, hb'⟩; replace hS := (hS.keep hb').add yv yb; clear hb')
    | (go_at_call 15; clear mk3; refine (C3.out _).mono ?_; rintro e w' ⟨rfl, hb'⟩; replace hS := (hS.keep hb').add zv zb; clear hb')
    | (go_at_call 15; clear mk4; refine (C4.out _).mono ?_; rintro e w' ⟨rfl, hb'⟩; replace hS := (hS.keep hb').add wv wb; clear hb'; have hv := hS.at5.adrV)
    | (go_at_call 16; refine (within_any _ _ _ _ _ _).mono ?_; rintro e w' ⟨rfl, hb'⟩; replace hS := hS.keep hb'; clear hb')
    | (go_at_call 14; refine (less_any _ _ _ _ _).mono ?_; rintro e w' ⟨rfl, hb'⟩; replace hS := hS.keep hb'; clear hb')
    | (refine al25 rfl rfl ?_) | (refine st25 rfl _ _ rfl _ rfl _ _ _ _ rfl (HB.new _ _ _) ?_; rw [World.setRow_alloc_new]))
    go_ret
    exact ⟨rfl, hS.hb⟩
  · cases I
    all_goals
      skip
      go_enter Tryd.func6, Tryd.ntmps6
      go_wp2_with fail
      refine (alive_any _ m hS.he).mono ?_
      rintro e w1 ⟨rfl, hb1⟩
      replace hS := hS.keep hb1
      clear hb1 he
      go_wp2_with (first
    | (refine ld25 rfl _ rfl _ rfl _ _ hS.at0 ?_) | (refine ld25 rfl _ rfl _ rfl _ _ hS.at1 ?_) | (refine ld25 rfl _ rfl _ rfl _ _ hS.at2 ?_) | (refine ld25 rfl _ rfl _ rfl _ _ hS.at3 ?_) | (refine ld25 rfl _ rfl _ rfl _ _ hS.at4 ?_)
    | (refine ld25g rfl _ rfl _ rfl _ _ hS.at0 ?_) | (refine ld25g rfl _ rfl _ rfl _ _ hS.at1 ?_) | (refine ld25g rfl _ rfl _ rfl _ _ hS.at2 ?_) | (refine ld25g rfl _ rfl _ rfl _ _ hS.at3 ?_) | (refine ld25g rfl _ rfl _ rfl _ _ hS.at4 ?_) | (refine ld25g rfl _ rfl _ rfl _ _ hS.at5 ?_)
    | (go_at_call 15; clear mk1; refine (C1.out _).mono ?_; rintro e w' ⟨rfl, hb'⟩; replace hS := (hS.keep hb').add 4 (maskF n b); clear hb')
    | (go_at_call 15; clear mk2; refine (C2.out _).mono ?_; rintro e w' ⟨rfl, hb'⟩; replace hS := (hS.keep hb').add yv yb; clear hb')
    | (go_at_call 15; clear mk3; refine (C3.out _).mono ?_; rintro e w' ⟨rfl, hb'⟩; replace hS := (hS.keep hb').add zv zb; clear hb')
    | (go_at_call 15; clear mk4; refine (C4.out _).mono ?_; rintro e w' ⟨rfl, hb'⟩; replace hS := (hS.keep hb').add wv wb; clear hb'; have hv := hS.at5.adrV)
    | (go_at_call 16; refine (within_any _ _ _ _ _ _).mono ?_; rintro e w' ⟨rfl, hb'⟩; replace hS := hS.keep hb'; clear hb')
    | (go_at_call 14; refine (less_any _ _ _ _ _).mono ?_; rintro e w' ⟨rfl, hb'⟩; replace hS := hS.keep hb'; clear hb')
    | (refine al25 rfl rfl ?_) | (refine st25 rfl _ _ rfl _ rfl _ _ _ _ rfl (HB.new _ _ _) ?_; rw [World.setRow_alloc_new]))
      all_goals
        go_ret
        exact ⟨rfl, hS.hb⟩
set_option maxRecDepth 100000 in
set_option maxHeartbeats 8000000 in
theorem nets_4_big (v' : Int) (b b' : Nat → Int) (n k F yv zv wv H : Int) (yb zb wb : Nat → Int) (I : Bool) (w : World) (m : Int) (he : Env m w)
    (C1 : Hid (∀ W, Calls Tryd.prog 15 #[adr 4 b, .int .i64 n] W fun e w' => e = .returned (.tuple #[adr 4 (maskF n b), .int .i64 0]) ∧ Below W.heap.size W w'))
    (C2 : Hid (∀ W, Calls Tryd.prog 15 #[adr v' b', .int .i64 n] W fun e w' => e = .returned (.tuple #[adr yv yb, .int .i64 F]) ∧ Below W.heap.size W w'))
    (C3 : Hid (∀ W, Calls Tryd.prog 15 #[adr 4 (maskF n b), .int .i64 k] W fun e w' => e = .returned (.tuple #[adr zv zb, .int .i64 1]) ∧ Below W.heap.size W w'))
    (C4 : Hid (∀ W, Calls Tryd.prog 15 #[adr 4 b, .int .i64 (min n k)] W fun e w' => e = .returned (.tuple #[adr wv wb, .int .i64 H]) ∧ Below W.heap.size W w'))
    (hF : (F = 1 ∧ I = false) ∨ (F = 0 ∧ eqA 4 (maskF n b) yv yb = I)) (I1 : withinF 4 b v' b' n = I) (I2 : withinF v' b' 4 b n = I)
    (hk0 : ¬ k < 0) (hk : 32 < k) :
    Calls Tryd.prog 6 #[adr 4 b, adr v' b', .int .i64 n, .int .i64 k] w fun e w' => e = .returned (.bool true) ∧ Below w.heap.size w w' := by
  have hS := NS.start he 4 v' b b'
  have E25 := eq25
  have N25 := ne25
  have mk1 : Hid True := trivial
  have mk2 : Hid True := trivial
  have mk3 : Hid True := trivial
  have mk4 : Hid True := trivial
  rcases hF with ⟨rfl, rfl⟩ | ⟨rfl, hI⟩
  · go_enter Tryd.func6, Tryd.ntmps6
    go_wp2_with fail
    refine (alive_any _ m hS.he).mono ?_
    rintro e w1 ⟨rfl, hb1⟩
    replace hS := hS.keep hb1
    clear hb1 he
    go_wp2_with (first
    | (refine ld25 rfl _ rfl _ rfl _ _ hS.at0 ?_) | (refine ld25 rfl _ rfl _ rfl _ _ hS.at1 ?_) | (refine ld25 rfl _ rfl _ rfl _ _ hS.at2 ?_) | (refine ld25 rfl _ rfl _ rfl _ _ hS.at3 ?_) | (refine ld25 rfl _ rfl _ rfl _ _ hS.at4 ?_)
    | (refine ld25g rfl _ rfl _ rfl _ _ hS.at0 ?_) | (refine ld25g rfl _ rfl _ rfl _ _ hS.at1 ?_) | (refine ld25g rfl _ rfl _ rfl _ _ hS.at2 ?_) | (refine ld25g rfl _ rfl _ rfl _ _ hS.at3 ?_) | (refine ld25g rfl _ rfl _ rfl _ _ hS.at4 ?_) | (refine ld25g rfl _ rfl _ rfl _ _ hS.at5 ?_)
    | (go_at_call 15; clear mk1; refine (C1.out _).mono ?_; rintro e w' ⟨rfl, hb'⟩; replace hS := (hS.keep hb').add 4 (maskF n b); clear hb')
    | (go_at_call 15; clear mk2; refine (C2.out _).mono ?_; rintro e w' ⟨rfl, hb'⟩; replace hS := (hS.keep hb').add yv yb; clear hb')
    | (go_at_call 15; clear mk3; refine (C3.out _).mono ?_; rintro e w' ⟨rfl, hb'⟩; replace hS := (hS.keep hb').add zv zb; clear hb')
    | (go_at_call 15; clear mk4; refine (C4.out _).mono ?_; rintro e w' ⟨rfl, hb'⟩; replace hS := (hS.keep hb').add wv wb; clear hb'; have hv := hS.at5.adrV)
    | (go_at_call 16; refine (within_any _ _ _ _ _ _).mono ?_; rintro e w' ⟨rfl, hb'⟩; replace hS := hS.keep hb'; clear hb')
    | (go_at_call 14; refine (less_any _ _ _ _ _).mono ?_; rintro e w' ⟨rfl, hb'⟩; replace hS := hS.keep hb'; clear hb')
    | (refine al25 rfl rfl ?_) | (refine st25 rfl _ _ rfl _ rfl _ _ _ _ rfl (HB.new _ _ _) ?_; rw [World.setRow_alloc_new]))
    go_ret
    exact ⟨rfl, hS.hb⟩
  · cases I
    all_goals
      skip
      go_enter Tryd.func6, Tryd.ntmps6
      go_wp2_with fail
      refine (alive_any _ m hS.he).mono ?_
      rintro e w1 ⟨rfl, hb1⟩
      replace hS := hS.keep hb1
      clear hb1 he
      go_wp2_with (first
    | (refine ld25 rfl _ rfl _ rfl _ _ hS.at0 ?_) | (refine ld25 rfl _ rfl _ rfl _ _ hS.at1 ?_) | (refine ld25 rfl _ rfl _ rfl _ _ hS.at2 ?_) | (refine ld25 rfl _ rfl _ rfl _ _ hS.at3 ?_) | (refine ld25 rfl _ rfl _ rfl _ _ hS.at4 ?_)
    | (refine ld25g rfl _ rfl _ rfl _ _ hS.at0 ?_) | (refine ld25g rfl _ rfl _ rfl _ _ hS.at1 ?_) | (refine ld25g rfl _ rfl _ rfl _ _ hS.at2 ?_) | (refine ld25g rfl _ rfl _ rfl _ _ hS.at3 ?_) | (refine ld25g rfl _ rfl _ rfl _ _ hS.at4 ?_) | (refine ld25g rfl _ rfl _ rfl _ _ hS.at5 ?_)
    | (go_at_call 15; clear mk1; refine (C1.out _).mono ?_; rintro e w' ⟨rfl, hb'⟩; replace hS := (hS.keep hb').add 4 (maskF n b); clear hb')
    | (go_at_call 15; clear mk2; refine (C2.out _).mono ?_; rintro e w' ⟨rfl, hb'⟩; replace hS := (hS.keep hb').add yv yb; clear hb')
    | (go_at_call 15; clear mk3; refine (C3.out _).mono ?_; rintro e w' ⟨rfl, hb'⟩; replace hS := (hS.keep hb').add zv zb; clear hb')
    | (go_at_call 15; clear mk4; refine (C4.out _).mono ?_; rintro e w' ⟨rfl, hb'⟩; replace hS := (hS.keep hb').add wv wb; clear hb'; have hv := hS.at5.adrV)
    | (go_at_call 16; refine (within_any _ _ _ _ _ _).mono ?_; rintro e w' ⟨rfl, hb'⟩; replace hS := hS.keep hb'; clear hb')
    | (go_at_call 14; refine (less_any _ _ _ _ _).mono ?_; rintro e w' ⟨rfl, hb'⟩; replace hS := hS.keep hb'; clear hb')
    | (refine al25 rfl rfl ?_) | (refine st25 rfl _ _ rfl _ rfl _ _ _ _ rfl (HB.new _ _ _) ?_; rw [World.setRow_alloc_new]))
      all_goals
        go_ret
        exact ⟨rfl, hS.hb⟩
end Go.Proofs.YtodbjjlgnnjmoaaDoor
