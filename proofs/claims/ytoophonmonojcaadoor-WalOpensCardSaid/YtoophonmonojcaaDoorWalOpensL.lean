/- the law WalOpens of package jotterlaw03 (a log opened on any bytes: the disk has just the records of what it holds; what is appended stands behind; a second opening finds all of it and cuts nothing) answers true for every two slices of bytes. No condition. -/
import Derived.Test.YtoophonmonojcaaDoorWalOpensW
import Derived.Test.YtoophonmonojcaaDoorGArg
namespace Go.Proofs.YtoophonmonojcaaDoor.fnWalOpens
open Go.ChangeShapes Go.WideShapes Go.ChangeAt Go.RowKit

set_option maxRecDepth 100000 in
theorem contract (H : Type) (enc : TypeId × Value → H) (W : World) (base : Nat) (args : Array Value) (ds gs : List (DataW H)) (before : List MemPlace)
    (hval : ∀ (j : Nat) t v, Tryd.f14.params[j]? = some t → args[j]? = some v → Value.okWide Tryd.prog W .any base t v)
    (hW : DataW.Whole enc Tryd.prog Tryd.f14.params.toList Rows.walOpensSpec.vars false W args.toList ds gs before) (hsz : (DataW.weightsEach Tryd.prog (Tryd.f14.params.toList ++ Rows.walOpensSpec.plain.varTypes Tryd.prog) (ds ++ gs)).all (· ≤ reachBytes) = true) (hL : laidMetH Tryd.prog Rows.walOpensRow.laid W) :
    Calls Tryd.prog 14 args W fun e W' => ∃ v, e = .returned v ∧ Rows.walOpensSpec.post enc Tryd.prog Tryd.f14 false true false false W args v W' := by
  have hW' := hW
  obtain ⟨p, q, hA0, hV, rfl, hfz, hnd⟩ := hW
  have hA : DataW.TrodAll enc Tryd.prog W 0 (fun _ => true) true Tryd.f14.params.toList args.toList ds p := hA0
  rw [Tryd.params14] at hA hval hsz
  obtain ⟨v0, vs0, d0, ds0, p0, q0, hargs, rfl, rfl, h0, r0⟩ := trodAll_cons hA
  obtain ⟨v1, vs1, d1, ds1, p1, q1, rfl, rfl, rfl, h1, r1⟩ := trodAll_cons r0
  obtain ⟨rfl, rfl, rfl⟩ := trodAll_nil r1
  obtain rfl : args = #[v0, v1] := by cases args; simp_all
  obtain ⟨rfl, rfl⟩ := trodVars_none hV
  clear hA0
  obtain ⟨ao0, n0, cap0, l0, rfl, hl0, hr0, hn0, hc0, hz0⟩ := bytes_open3 h0 (okWide_slice Tryd.underlying27 (hval 0 27 v0 rfl rfl)) (fun elems spare he => sized_slice (j := 0) (t := 27) hsz rfl (by subst he; rfl) Tryd.underlying27)
  obtain ⟨ao1, n1, cap1, l1, rfl, hl1, hr1, hn1, hc1, hz1⟩ := bytes_open3 h1 (okWide_slice Tryd.underlying27 (hval 1 27 v1 rfl rfl)) (fun elems spare he => sized_slice (j := 1) (t := 27) hsz rfl (by subst he; rfl) Tryd.underlying27)
  obtain ⟨hT, hE⟩ := of_laid2 (rest := []) hL rfl
  refine (walOpens_any ao0 n0 cap0 l0 ao1 n1 cap1 l1 W hl0 hr0 hc0 hz0 (by omega) hl1 hr1 hc1 hz1 (by omega) hT hE).mono fun e W' ⟨he, hg⟩ => ?_
  subst he
  exact ⟨_, rfl, law_post rfl (by kernel_rfl) (by rw [Tryd.params14]; intro t ht; simp at ht; first | (subst ht; exact ⟨by kernel_rfl, of_decide_eq_true (by kernel_rfl)⟩) | (rcases ht with rfl | rfl <;> exact ⟨by kernel_rfl, of_decide_eq_true (by kernel_rfl)⟩) | (rcases ht with rfl | rfl <;> exact ⟨by kernel_rfl, of_decide_eq_true (by kernel_rfl)⟩)) hW' rfl hg⟩

theorem laid_met (os : Os) : laidMetH Tryd.prog Rows.walOpensRow.laid ((laidWorld2 os).forCall (fun _ _ => 0) ⟨#[], #[.slice none 0 0, .slice none 0 0], []⟩).memory :=
  laidMetH_of_parts (laidMet_of_run' 8 (by kernel_rfl) (by kernel_rfl)) (by kernel_rfl)
theorem reads (os : Os) {H : Type} (enc : TypeId × Value → H) : ∃ places, DataW.whole enc Tryd.prog ((laidWorld2 os).forCall (fun _ _ => 0) ⟨#[], #[.slice none 0 0, .slice none 0 0], []⟩).memory Tryd.f14.params.toList Rows.walOpensSpec.vars false #[Value.slice none 0 0, Value.slice none 0 0].toList 8 = some ([.nil, .nil], [], places) :=
  ⟨[], by kernel_rfl⟩

set_option maxRecDepth 100000 in
theorem lifted (os : Os) (started : os.Started) (H : Type) (enc : TypeId × Value → H) (F : Stop.Interp) :
    ReturnsInHanded {} Tryd.checked os 14 .any ((OpenSpec.ofChange Rows.walOpensSpec).preRow enc Tryd.prog Tryd.f14 Rows.walOpensRow.domain false Rows.walOpensRow.laid) (((OpenSpec.ofChange Rows.walOpensSpec).at F).post enc Tryd.prog Tryd.f14 false true false false) := by
  obtain ⟨places, hx⟩ := reads os enc
  refine returnsInHanded_of_row (C := Tryd.checked) (s := OpenSpec.ofChange Rows.walOpensSpec) own started (by kernel_rfl) Tryd.func14
    (witness_row_at (enc := enc) (C := Tryd.checked) false (laidWorld2 os) #[.slice none 0 0, .slice none 0 0] rfl (by kernel_rfl) (by kernel_rfl) (by kernel_rfl)
      (OpenSpec.preRow_of_cond 8 hx (by kernel_rfl) (fun k hk => by cases hk) (by kernel_rfl) (laid_met os))) ?_
  intro W base args ds gs before hval hW _ hcond hsz hL _ _
  exact contract H enc W base args ds gs before hval hW hsz hL
end Go.Proofs.YtoophonmonojcaaDoor.fnWalOpens
