/- The card of AddrBack's second form: for every address, every text and every three numbers, together of bulk at most 1048576, in every world that holds the listed tables as the program lays them, AddrBack returns true and its arguments read as before. No further condition. -/
import Derived.Test.YtodbjjlgnnjmoaaDoorSi
import Derived.Test.YtodbjjlgnnjmoaaDoorBorder
namespace Go.Proofs.YtodbjjlgnnjmoaaDoor
open Go.ChangeShapes Go.WideShapes Go.ChangeAt Go.RowKit
theorem bulk_second {H : Type} {d : DataW H} {r : List (DataW H)} {l : List UInt8} (h : Rows.uptoBulkAll (d :: DataW.lit (H := H) (.string l) :: r) ≤ 1048576) : l.length ≤ 1048576 := by
  simp only [Rows.uptoBulkAll, Rows.uptoBulk] at h
  omega
set_option maxRecDepth 100000 in
theorem backC_contract (H : Type) (enc : TypeId × Value → H) (W : World) (base : Nat) (args : Array Value) (ds gs : List (DataW H)) (before : List MemPlace)
    (hval : ∀ (j : Nat) t v, Tryd.f4.params[j]? = some t → args[j]? = some v → Value.okWide Tryd.prog W .any base t v)
    (hW : DataW.Whole enc Tryd.prog Tryd.f4.params.toList Rows.addrBackSpec.vars false W args.toList ds gs before) (hL : laidMetH Tryd.prog laidL W) (hS : W.ShapedOpen Tryd.prog) (hk : Rows.uptoSmall H (ds ++ gs) = true) :
    Calls Tryd.prog 4 args W fun e W' => ∃ v, e = .returned v ∧ Rows.addrBackSpec.post enc Tryd.prog Tryd.f4 false true false false W args v W' := by
  obtain ⟨m, he⟩ := env_of hL hS
  have hW' := hW
  obtain ⟨p, q, hA0, hV, rfl, hfz, hnd⟩ := hW
  have hA : DataW.TrodAll enc Tryd.prog W 0 (fun _ => true) true Tryd.f4.params.toList args.toList ds p := hA0
  rw [Tryd.params4] at hA hval
  obtain ⟨v0, vs0, d0, ds0, p0, q0, hargs, rfl, rfl, h0, r0⟩ := trodAll_cons hA
  obtain ⟨v1, vs1, d1, ds1, p1, q1, hargs1, rfl, rfl, h1, r1⟩ := trodAll_cons r0
  obtain ⟨v2, vs2, d2, ds2, p2, q2, hargs2, rfl, rfl, h2, r2⟩ := trodAll_cons r1
  obtain ⟨v3, vs3, d3, ds3, p3, q3, hargs3, rfl, rfl, h3, r3⟩ := trodAll_cons r2
  obtain ⟨v4, vs4, d4, ds4, p4, q4, hargs4, rfl, rfl, h4, r4⟩ := trodAll_cons r3
  obtain ⟨rfl, rfl, rfl⟩ := trodAll_nil r4
  subst hargs4 hargs3 hargs2 hargs1
  obtain rfl : args = #[v0, v1, v2, v3, v4] := by cases args; simp_all
  obtain ⟨rfl, rfl⟩ := trodVars_none hV
  obtain ⟨x0, b0, rfl, hb0, rfl, rfl, hx0⟩ := open_adr (hval 0 25 v0 rfl rfl) h0
  obtain ⟨s, rfl, rfl, rfl, hmx⟩ := Go.ChangeMaps.open_string Tryd.underlying9 (hval 1 9 v1 rfl rfl) h1
  obtain ⟨n2, rfl, rfl, rfl, hn2⟩ := open_int Tryd.underlying3 (hval 2 3 v2 rfl rfl) h2
  obtain ⟨n3, rfl, rfl, rfl, hn3⟩ := open_int Tryd.underlying3 (hval 3 3 v3 rfl rfl) h3
  obtain ⟨n4, rfl, rfl, rfl, hn4⟩ := open_int Tryd.underlying3 (hval 4 3 v4 rfl rfl) h4
  simp only [List.append_nil] at hW' hk
  have hsz : s.size ≤ 1048576 := by
    have h1 := of_decide_eq_true hk
    have h2 := bulk_second h1
    rwa [len_size] at h2
  refine (back_any x0 b0 hb0 s (by omega) n2 n3 n4 W m he).mono fun e W' ⟨he, hbl⟩ => ?_
  subst he
  exact ⟨_, rfl, post_plain hW' (fun _ _ _ => trodAll_cons_mk (shut_bool Tryd.underlying4 _) trodAll_mk0)
    (fun _ => trodAll_cons_mk (shut_adr hx0 hb0) (trodAll_cons_mk (Go.ChangeMaps.shut_string Tryd.underlying9 hmx) (trodAll_cons_mk (shut_int Tryd.underlying3 hn2) (trodAll_cons_mk (shut_int Tryd.underlying3 hn3) (trodAll_cons_mk (shut_int Tryd.underlying3 hn4) trodAll_mk0))))) (fun _ => rfl) hbl (ok_one (by kernel_rfl) rfl (okWide_bool_mk Tryd.underlying4 _))⟩
theorem backC_reads (os : Os) {H : Type} (enc : TypeId × Value → H) : ∃ places, DataW.whole enc Tryd.prog ((laidWorld os).forCall (fun _ _ => 0) ⟨#[], #[adr 0 z0, .string ⟨#[]⟩, .int .i64 0, .int .i64 0, .int .i64 0], []⟩).memory Tryd.f4.params.toList Rows.addrBackSpec.vars false #[adr 0 z0, .string ⟨#[]⟩, .int .i64 0, .int .i64 0, .int .i64 0].toList 8 =
    some ([adrD H 0 z0, .lit (.string []), .lit (.int .i64 0), .lit (.int .i64 0), .lit (.int .i64 0)], [], places) :=
  ⟨[], by kernel_rfl⟩
set_option maxRecDepth 100000 in
theorem backC_lifted (os : Os) (started : os.Started) (H : Type) (enc : TypeId × Value → H) (F : Stop.Interp) :
    ReturnsInHanded {} Tryd.checked os 4 .any ((Rows.OpenSpec.upto Rows.addrBackSpec).preRow enc Tryd.prog Tryd.f4 Rows.addrBackUptoRow.domain false Rows.addrBackUptoRow.laid) (((Rows.OpenSpec.upto Rows.addrBackSpec).at F).post enc Tryd.prog Tryd.f4 false true false false) := by
  obtain ⟨places, hx⟩ := backC_reads os enc
  refine returnsInHanded_of_row (C := Tryd.checked) (s := Rows.OpenSpec.upto Rows.addrBackSpec) own started (by kernel_rfl) Tryd.func4
    (witness_row_at (enc := enc) (C := Tryd.checked) false (laidWorld os) #[adr 0 z0, .string ⟨#[]⟩, .int .i64 0, .int .i64 0, .int .i64 0] (World.layVars_os _ _ _) (by kernel_rfl) (by kernel_rfl) (by kernel_rfl)
      (OpenSpec.preRow_of_cond 8 hx (by kernel_rfl) (fun k hk => by cases hk; kernel_rfl) (by kernel_rfl) (laid_met os _))) ?_
  intro W base args ds gs before hval hW _ hcond _ hL hS _
  exact backC_contract H enc W base args ds gs before hval hW hL hS (hcond _ rfl)
theorem backC_said : Rows.AddrBackUptoSaid :=
  OpenClaim.holds_of_cond 4 Tryd.f4 rfl rfl rfl rfl rfl rfl rfl ⟨rfl, rfl, rfl, rfl, rfl⟩ rfl rfl rfl rfl rfl (by kernel_rfl) Tryd.func4 (by kernel_rfl)
    (of_decide_eq_true (by kernel_rfl)) (by unfold Func.isWrapper; first | (rw [if_pos (by decide +kernel)]; kernel_rfl) | (rw [if_neg (by decide +kernel)]; exact ⟨rfl, rfl⟩))
    (fun os started H enc _ F => by rw [OpenClaim.pre_eq_preRow]; exact backC_lifted os started H enc F)
theorem backC_plain (f : FuncId) (fn : Func) (hf : Tryd.pinned.checked.prog.funcNamed "mosaic/mosaiclaw03.AddrBack" = some f) (hfn : Tryd.pinned.checked.prog.funcs[f]? = some fn) :
    false = Tryd.pinned.checked.prog.looks [] ∧ ∀ (j : Nat) t, fn.params[j]? = some t → Tryd.pinned.checked.prog.wantsStandIn t = false := by
  obtain rfl : f = 4 := Option.some.inj ((show Tryd.prog.funcNamed "mosaic/mosaiclaw03.AddrBack" = some 4 by kernel_rfl).symm.trans hf) |>.symm
  obtain rfl : fn = Tryd.f4 := (Option.some.inj (Tryd.func4.symm.trans hfn)).symm
  refine ⟨by kernel_rfl, fun j t ht => ?_⟩
  rw [Tryd.params4] at ht
  have h : t = 25 ∨ t = 9 ∨ t = 3 := by simpa using Array.mem_of_getElem? ht
  rcases h with rfl | rfl | rfl
  · exact (show Tryd.prog.wantsStandIn 25 = false by kernel_rfl)
  · exact (show Tryd.prog.wantsStandIn 9 = false by kernel_rfl)
  · exact (show Tryd.prog.wantsStandIn 3 = false by kernel_rfl)
/-- The card of the second form. -/
theorem addrBackUptoCard : Rows.AddrBackUptoCardSaid :=
  Claim7.holds_tied_plain_at .later [] _ _ _ _ backC_said (fun _ h => by cases h) (by kernel_rfl) (fun _ h => by cases h) addrBackUpto_row_tie rfl ⟨rfl, rfl⟩ (by kernel_rfl) rfl backC_plain (by kernel_rfl)
end Go.Proofs.YtodbjjlgnnjmoaaDoor
