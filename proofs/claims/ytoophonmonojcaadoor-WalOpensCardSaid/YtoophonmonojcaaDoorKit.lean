/- What the rows of this seat share: from the listed variables to the walks' facts; the law's post out of 'Below'; arguments opened. -/
import Derived.Test.YtoophonmonojcaaDoorCards
import Derived.Test.YtoophonmonojcaaDoorTie
import Derived.Test.YtoophonmonojcaaDoorGEq
import Derived.ProofKit
import Derived.OpenShut
import Derived.Deep.DeepHandedRow
import Derived.Deep.Matrix
import Derived.Lib.LaidTab
import Derived.LaidHandle
namespace Go.Proofs.YtoophonmonojcaaDoor
open Go.ChangeShapes Go.WideShapes Go.ChangeAt Go.RowKit

theorem own : ownKnob Tryd.prog.godebug = none := by kernel_rfl
theorem gTab : Tryd.prog.globalNamed "jotter/octet.table" = some 5 := by kernel_rfl
theorem gTabType : (Tryd.prog.globals[5]?).map (·.type) = some 170 := by kernel_rfl
theorem cellsTab : Tryd.prog.cellsOf 170 = 16 := by kernel_rfl
theorem cellsU32 : Tryd.prog.cellsOf 145 = 1 := by kernel_rfl
theorem cellsU8 : Tryd.prog.cellsOf 5 = 1 := by kernel_rfl
theorem cellsBytes : Tryd.prog.cellsOf 27 = 1 := by kernel_rfl
theorem gErr : Tryd.prog.globalNamed "errors.errorType" = some 3 := by kernel_rfl
theorem rtypeIs : (Tryd.prog.cutTypes.find? (·.1 == "internal/reflectlite.rtype")).map (·.2) = some 172 := by kernel_rfl
theorem typesSize : Tryd.prog.types.size = 220 := by kernel_rfl
theorem oneRow : ((List.range 220).filter fun t => Tryd.prog.rowNamed t [101, 114, 114, 111, 114]) = [29] := by kernel_rfl
theorem errHandle : typeHandle Tryd.prog 29 = hnd 29 := by kernel_rfl

/-- The table's cells. -/
theorem tab_of_laid {W : World} {rest : List (String × DataW Unit)} (h : laidMet Tryd.prog (("jotter/octet.table", Rows.laid_jotter_octet_table) :: rest) W) : Tab W := by
  have h1 : Lib.TabIs Tryd.prog W "jotter/octet.table" .u32 (table.map fun (x : Nat) => (x : Int)) :=
    Lib.tabIs_of_head (rest := rest) gTab gTabType Tryd.underlying170 Tryd.underlying145 cellsU32 cellsTab h
  intro i hi
  have := World.var?_cell gTab h1 i
  rw [this]
  simp only [List.getElem?_toArray, List.getElem?_map, List.getD_eq_getElem?_getD]
  have hl : i < table.length := by simpa [table] using hi
  rw [List.getElem?_eq_getElem hl]
  rfl
/-- errors.errorType's cell. -/
theorem etype_of_handles {W : World} {l : List (String × DataW Unit)} (h : handlesMet Tryd.prog l W) (hm : ("errors.errorType", Rows.laid_errors_errorType) ∈ l) : EType W := by
  obtain ⟨name, u, ty, e1, e2, e3, e4, e5⟩ := h _ hm
  have en : name = [101, 114, 114, 111, 114] := (Option.some.inj e1).symm
  subst en
  obtain rfl := Option.some.inj (rtypeIs.symm.trans e2)
  have hm2 : ty ∈ (List.range 220).filter fun t => Tryd.prog.rowNamed t [101, 114, 114, 111, 114] := List.mem_filter.2 ⟨List.mem_range.2 (by rw [← typesSize]; exact e3), e4⟩
  rw [oneRow] at hm2
  obtain rfl := List.mem_singleton.1 hm2
  rw [errHandle] at e5
  have := World.var?_cell gErr e5 0
  simpa [EType] using this
/-- Both, of a row that lists errors.errorType and the table. -/
theorem of_laid2 {W : World} {rest : List (String × DataW Unit)} (h : laidMetH Tryd.prog (("errors.errorType", Rows.laid_errors_errorType) :: ("jotter/octet.table", Rows.laid_jotter_octet_table) :: rest) W) (hr : (rest.all fun x => x.2.handleName?.isNone) = true) : Tab W ∧ EType W := by
  have e1 : (rest.filter fun x => x.2.handleName?.isSome) = [] := by
    rw [List.filter_eq_nil_iff]
    intro x hx hs
    have := List.all_eq_true.1 hr x hx
    cases hn : x.2.handleName? with
    | none => rw [hn] at hs; cases hs
    | some y => rw [hn] at this; cases this
  have e2 : (rest.filter fun x => x.2.handleName?.isNone) = rest := List.filter_eq_self.2 (fun x hx => List.all_eq_true.1 hr x hx)
  have h' : laidMet Tryd.prog (("jotter/octet.table", Rows.laid_jotter_octet_table) :: rest) W ∧ handlesMet Tryd.prog [("errors.errorType", Rows.laid_errors_errorType)] W := by
    have k1 : ((("errors.errorType", Rows.laid_errors_errorType) :: ("jotter/octet.table", Rows.laid_jotter_octet_table) :: rest).filter fun x => (x : String × DataW Unit).2.handleName?.isSome) = [("errors.errorType", Rows.laid_errors_errorType)] := by
      rw [List.filter_cons_of_pos (by rfl), List.filter_cons_of_neg (by decide), e1]
    have k2 : ((("errors.errorType", Rows.laid_errors_errorType) :: ("jotter/octet.table", Rows.laid_jotter_octet_table) :: rest).filter fun x => (x : String × DataW Unit).2.handleName?.isNone) = ("jotter/octet.table", Rows.laid_jotter_octet_table) :: rest := by
      rw [List.filter_cons_of_neg (by decide), List.filter_cons_of_pos (by rfl), e2]
    unfold laidMetH at h
    rw [k1, k2] at h
    exact h
  exact ⟨tab_of_laid h'.1, etype_of_handles h'.2 (by simp)⟩

/-- The arguments read behind the call as before it. -/
theorem args_below {H : Type} {enc : TypeId × Value → H} {W W' : World} (hb : Below W.heap.size W W') (hlay : laidOutB Tryd.prog = true) : ∀ (ts : List TypeId) (vs : List Value) (ds : List (DataW H)) (p : List MemPlace),
    (∀ t ∈ ts, Tryd.prog.readableRec t = true ∧ t < Tryd.prog.types.size) → DataW.TrodAll enc Tryd.prog W 0 (fun _ => true) true ts vs ds p → (∀ x ∈ p, x.block < W.heap.size) →
    DataW.TrodAll enc Tryd.prog W' 0 (fun b => decide (b < W.heap.size)) true ts vs ds p
  | [], [], [], _, _, h, _ => h
  | t :: ts, v :: vs, d :: ds, _, hty, ⟨p, q, h1, h2, rfl⟩, hlt =>
    ⟨p, q, Below.trod hlay (hty t (by simp)).1 (hty t (by simp)).2 h1 hb (fun x hx => hlt x (by simp [hx])), args_below hb hlay ts vs ds q (fun t' ht => hty t' (by simp [ht])) h2 (fun x hx => hlt x (by simp [hx])), rfl⟩
  | [], [], _ :: _, _, _, h, _ => h.elim
  | [], _ :: _, _, _, _, h, _ => h.elim
  | _ :: _, [], _, _, _, h, _ => h.elim
  | _ :: _, _ :: _, [], _, _, h, _ => h.elim

theorem laidOut : laidOutB Tryd.prog = true := by kernel_rfl

/-- WHAT A LAW's ROW ASKS BEHIND THE CALL: true is handed back, nothing that was there has turned. -/
theorem law_post {H : Type} {enc : TypeId × Value → H} {fn : Func} {s : ChangeSpec} (hv : s.vars = []) (hr : fn.resultTypes = #[4]) {W W' : World} {args : Array Value} {ds : List (DataW H)} {before : List MemPlace}
    (hty : ∀ t ∈ fn.params.toList, Tryd.prog.readableRec t = true ∧ t < Tryd.prog.types.size)
    (hW : DataW.Whole enc Tryd.prog fn.params.toList s.vars false W args.toList ds [] before) (hs : s.fn H (ds ++ []) = { results := [.lit (.bool true)], args := ds }) (hb : Below W.heap.size W W') :
    s.post enc Tryd.prog fn false true false false W args (.bool true) W' := by
  have hlt := hW.lt
  have hW' := hW
  obtain ⟨p, q, hA, hV, rfl, _, _⟩ := hW
  rw [hv] at hV
  have hq : q = [] := hV
  subst hq
  refine ⟨ds, [], p ++ [], [], p, [], hW', ?_, ?_, ?_, hb.frame _, fun h => by cases h⟩
  · rw [hs, hr]; exact trodAll_mk1 (shut_bool Tryd.underlying4 true)
  · rw [hs]; exact args_below hb laidOut _ _ _ _ hty hA (fun x hx => hlt x (by simp [hx]))
  · rw [hs, hv]; rfl

def withCells (cs : Array Value) : Obj → Obj
  | .cells _ t frozen => .cells cs t frozen
  | o => o
/-- A WORLD FOR THE WITNESS of a row that lists errors.errorType and the table. -/
noncomputable def laidWorld2 (os : Os) : World :=
  { World.holding Tryd.prog os ⟨#[], #[], []⟩ with heap := ((World.holding Tryd.prog os ⟨#[], #[], []⟩).heap.modify 5 (withCells (table.map fun (x : Nat) => Value.int .u32 (x : Int)).toArray)).modify 3 (withCells #[.iface 172 (.agg #[hnd 29])]) }
end Go.Proofs.YtoophonmonojcaaDoor
