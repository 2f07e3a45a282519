/- Several texts laid as one, in this order: ErrAs, ErrAs2. -/
import Derived.Test.YtoophonmonojcaaDoorErrFacts
/- Contracts of errors.As at the two targets of this program: *api.Errno and **api.Fault. -/
namespace Go.Proofs.YtoophonmonojcaaDoor
open Go.RowKit Go.Extern.Stop Go.Stop Go.Extern

/-- The variable errors.errorType as it lies. -/
def EType (w : World) : Prop := w.cell? ⟨3, 0, none⟩ = some (.iface 172 (.agg #[hnd 29]))
theorem EType.step {w w' : World} (h : EType w) (hb : Below w.heap.size w w') : EType w' := (hb.cell (p := ⟨3, 0, none⟩) (block_lt h)).trans h

/-- true, and the target's variable holds v. -/
def AsHit (w : World) (t : Addr) (v : Value) (e : Ending) (w' : World) : Prop := e = .returned (.bool true) ∧ ∃ w1, Below w.heap.size w w1 ∧ w1.setCell t v = w'
/-- false. -/
def AsMiss (w : World) (e : Ending) (w' : World) : Prop := e = .returned (.bool false) ∧ Below w.heap.size w w'

theorem as_nil (t : Value) (w : World) : Calls Tryd.prog 72 #[.nilIface, t] w fun e w' => e = .returned (.bool false) ∧ w = w' := by
  go_enter Tryd.func72, Tryd.ntmps72
  go_wp2
  go_ret
  exact ⟨rfl, rfl⟩

/-- The boxed reflect value and the new variable of the error. -/
theorem two_blocks (w : World) (o1 o2 : Obj) (a : Addr) (v : Value) (h : w.cell? a = some v) : ((w.alloc o1).alloc o2).cell? a = some v := by
  have h1 := block_lt h
  rw [World.cell?_alloc_lt _ _ a (by simp; omega), World.cell?_alloc_lt _ _ a h1]; exact h
theorem two_frozen (w : World) (o1 o2 : Obj) (a : Addr) (v : Value) (h : w.cell? a = some v) (hf : w.frozen? a = false) : ((w.alloc o1).alloc o2).frozen? a = false := by
  have h1 := block_lt h
  rw [World.frozen?_alloc_old _ _ a (by simp; omega), World.frozen?_alloc_old _ _ a (Nat.ne_of_lt h1)]; exact hf

set_option maxHeartbeats 4000000 in
/-- errors.as at an error whose type is the target's: *api.Fault. -/
theorem asFF (e t a : Addr) (old tgt : Value) (w : World) (ha : w.cell? a = some (.pointer (some t))) (ht : w.cell? t = some old) (hf : w.frozen? t = false) :
    Calls Tryd.prog 111 #[.iface 106 (.pointer (some e)), tgt, .agg #[hnd 108, .pointer (some a), .int .u64 150], .iface 172 (.agg #[hnd 106])] w (AsHit w t (.pointer (some e))) := by
  have x1 := ext131; have x2 := ext162; have x3 := ext132; have x4 := ext108; have x5 := ext133
  have f1 := Tryd.typeOfF; have f2 := Tryd.methodAssignableTo; have f3 := Tryd.assFF; have f5 := Tryd.valueOfF
  have hal := block_lt ha
  have hs : ∀ (o1 o2 : Obj), ((w.alloc o1).alloc o2).cell? t = some old := fun o1 o2 => two_blocks w o1 o2 t old ht
  have el := Tryd.elemVPF a t (w.alloc (.cells #[hnd 108, .pointer (some a), .int .u64 150] 152)) (by rw [World.cell?_alloc_lt _ _ a hal]; exact ha)
  have st := Tryd.setF t ⟨w.heap.size + 1, 0, none⟩ e old ((w.alloc (.cells #[hnd 108, .pointer (some a), .int .u64 150] 152)).alloc (.cells #[.pointer (some e)] 106))
    (by rw [World.cell?_alloc_at _ _ _ _ (by simp)]; rfl) (two_blocks w _ _ t old ht) (two_frozen w _ _ t old ht hf)
  clear hs ha ht hf
  go_enter Tryd.func111, Tryd.ntmps111
  go_wp2
  refine wp_loop_rounds 1 ?_
  rw [rounds_succ]
  go_wp2
  go_ret
  exact ⟨rfl, _, ((Below.refl _ w).alloc (Nat.le_refl _) _).alloc (by simp) _, rfl⟩

set_option maxHeartbeats 4000000 in
/-- errors.as at an error whose type is the target's: api.Errno. -/
theorem asEE (t a : Addr) (c : Int) (old tgt : Value) (w : World) (ha : w.cell? a = some (.pointer (some t))) (ht : w.cell? t = some old) (hf : w.frozen? t = false) :
    Calls Tryd.prog 111 #[.iface 49 (.int .i64 c), tgt, .agg #[hnd 130, .pointer (some a), .int .u64 150], .iface 172 (.agg #[hnd 49])] w (AsHit w t (.int .i64 c)) := by
  have x1 := ext131; have x2 := ext162; have x3 := ext132; have x4 := ext108; have x5 := ext133
  have f1 := Tryd.typeOfE; have f2 := Tryd.methodAssignableTo; have f3 := Tryd.assEE; have f5 := Tryd.valueOfE
  have hal := block_lt ha
  have el := Tryd.elemVPE a t (w.alloc (.cells #[hnd 130, .pointer (some a), .int .u64 150] 152)) (by rw [World.cell?_alloc_lt _ _ a hal]; exact ha)
  have st := Tryd.setE t ⟨w.heap.size + 1, 0, none⟩ c old ((w.alloc (.cells #[hnd 130, .pointer (some a), .int .u64 150] 152)).alloc (.cells #[.int .i64 c] 49))
    (by rw [World.cell?_alloc_at _ _ _ _ (by simp)]; rfl) (two_blocks w _ _ t old ht) (two_frozen w _ _ t old ht hf)
  clear ha ht hf
  go_enter Tryd.func111, Tryd.ntmps111
  go_wp2
  refine wp_loop_rounds 1 ?_
  rw [rounds_succ]
  go_wp2
  go_ret
  exact ⟨rfl, _, ((Below.refl _ w).alloc (Nat.le_refl _) _).alloc (by simp) _, rfl⟩

set_option maxHeartbeats 4000000 in
/-- errors.as at an api.Errno where a *api.Fault is wanted. -/
theorem asEF (a : Addr) (c : Int) (tgt : Value) (w : World) :
    Calls Tryd.prog 111 #[.iface 49 (.int .i64 c), tgt, .agg #[hnd 108, .pointer (some a), .int .u64 150], .iface 172 (.agg #[hnd 106])] w (AsMiss w) := by
  have x1 := ext131; have x2 := ext162
  have f1 := Tryd.typeOfE; have f2 := Tryd.methodAssignableTo; have f3 := Tryd.assEF
  have g1 := Tryd.noAsE; have g2 := Tryd.noUnwrapE; have g3 := Tryd.noUnwrapsE
  go_enter Tryd.func111, Tryd.ntmps111
  go_wp2
  refine wp_loop_rounds 1 ?_
  rw [rounds_succ]
  go_wp2
  go_ret
  exact ⟨rfl, (Below.refl _ w).alloc (Nat.le_refl _) _⟩

theorem Tryd.nilAheadUnwrap (a : Addr) (w : World) : (nilAhead 320 106 (.pointer (some a)) "Unwrap").run Tryd.prog w = .ok (some false) w := by kernel_rfl
theorem unwrap_any (g : Nat) (at_ c : Int) (w : World) (h : w.heap[g]? = some (faultObj at_ c)) :
    Calls Tryd.prog 157 #[.pointer (some ⟨g, 0, none⟩)] w fun e w' => e = .returned (.iface 49 (.int .i64 c)) ∧ w = w' := by
  have c1 : w.cell? ⟨g, 1, none⟩ = some (.iface 49 (.int .i64 c)) := by simp [World.cell?, h, faultObj]
  clear h
  go_enter Tryd.func157, Tryd.ntmps157
  go_wp2
  go_ret
  exact ⟨rfl, rfl⟩

set_option maxRecDepth 100000 in
set_option maxHeartbeats 4000000 in
/-- errors.as at a *api.Fault where an api.Errno is wanted: it holds one. -/
theorem asFE (g : Nat) (at_ c : Int) (t a : Addr) (old tgt : Value) (w : World) (hg : w.heap[g]? = some (faultObj at_ c)) (ha : w.cell? a = some (.pointer (some t))) (ht : w.cell? t = some old) (hf : w.frozen? t = false) :
    Calls Tryd.prog 111 #[faultV g, tgt, .agg #[hnd 130, .pointer (some a), .int .u64 150], .iface 172 (.agg #[hnd 49])] w (AsHit w t (.int .i64 c)) := by
  have x1 := ext131; have x2 := ext162; have x3 := ext132; have x4 := ext108; have x5 := ext133
  have f1 := Tryd.typeOfE; have f2 := Tryd.methodAssignableTo; have f3 := Tryd.assEE; have f5 := Tryd.valueOfE
  have m1 := Tryd.methodUnwrap; have m2 := Tryd.nilAheadUnwrap
  have f6 := Tryd.typeOfF; have f7 := Tryd.assFE; have g1 := Tryd.noAsF; have g2 := Tryd.unwrapF
  have hal := block_lt ha
  have el := Tryd.elemVPE a t (w.alloc (.cells #[hnd 130, .pointer (some a), .int .u64 150] 152)) (by rw [World.cell?_alloc_lt _ _ a hal]; exact ha)
  have st := Tryd.setE t ⟨w.heap.size + 1, 0, none⟩ c old ((w.alloc (.cells #[hnd 130, .pointer (some a), .int .u64 150] 152)).alloc (.cells #[.int .i64 c] 49))
    (by rw [World.cell?_alloc_at _ _ _ _ (by simp)]; rfl) (two_blocks w _ _ t old ht) (two_frozen w _ _ t old ht hf)
  clear ha ht hf
  have hgl : g < w.heap.size := by
    rcases Nat.lt_or_ge g w.heap.size with h | h
    · exact h
    · rw [Array.getElem?_eq_none h] at hg; cases hg
  have HG := Lib.hid hg; clear hg
  go_enter Tryd.func111, Tryd.ntmps111
  go_wp2
  refine wp_loop_rounds 2 ?_
  rw [rounds_succ]
  go_wp2_with (go_at_call 157; refine (unwrap_any g at_ c _ (by rw [Below.heap_alloc _ _ _ hgl]; exact HG.out)).mono ?_; rintro e w' ⟨rfl, rfl⟩)
  rw [rounds_succ]
  go_wp2
  go_ret
  exact ⟨rfl, _, ((Below.refl _ w).alloc (Nat.le_refl _) _).alloc (by simp) _, rfl⟩

end Go.Proofs.YtoophonmonojcaaDoor

/- Contracts of errors.As itself. -/
namespace Go.Proofs.YtoophonmonojcaaDoor
open Go.RowKit Go.Extern.Stop Go.Stop Go.Extern

set_option maxHeartbeats 4000000 in
/-- errors.As with a **api.Fault. -/
theorem As_PF (dt : TypeId) (dv : Value) (t : Addr) (old : Value) (w : World) (ht : w.cell? t = some old) (hE : EType w) (Q : Ending → World → Prop)
    (h : ∀ w1 a, Below w.heap.size w w1 → w1.cell? a = some (.pointer (some t)) → w1.cell? t = some old → w1.frozen? t = w.frozen? t → Calls Tryd.prog 111 #[.iface dt dv, .iface 108 (.pointer (some t)), .agg #[hnd 108, .pointer (some a), .int .u64 150], .iface 172 (.agg #[hnd 106])] w1 fun e w' => ∃ b, e = .returned (.bool b) ∧ Q e w') :
    Calls Tryd.prog 72 #[.iface dt dv, .iface 108 (.pointer (some t))] w Q := by
  have x4 := ext108; have x6 := ext109; have x7 := ext152; have x8 := ext110; have x9 := ext164; have x10 := ext165
  have f6 := Tryd.valueOfPF; have f7 := Tryd.typePF; have mK := Tryd.methodKind; have mE := Tryd.methodElem; have mI := Tryd.methodImplements
  have k1 := Tryd.kindPF; have k2 := Tryd.kindF; have e1 := Tryd.elemPF; have i1 := Tryd.implF
  have n8 := Tryd.isNilPF ⟨w.heap.size, 0, none⟩ t ((w.alloc (.cells #[.pointer (some t)] 108)).alloc (.cells #[hnd 108, .pointer (some ⟨w.heap.size, 0, none⟩), .int .u64 150] 152)) (by simp)
  have hg2 : ((w.alloc (.cells #[.pointer (some t)] 108)).alloc (.cells #[hnd 108, .pointer (some ⟨w.heap.size, 0, none⟩), .int .u64 150] 152)).cell? ⟨3, 0, none⟩ = some (.iface 172 (.agg #[hnd 29])) := two_blocks w _ _ _ _ hE
  have h' := h ((w.alloc (.cells #[.pointer (some t)] 108)).alloc (.cells #[hnd 108, .pointer (some ⟨w.heap.size, 0, none⟩), .int .u64 150] 152)) ⟨w.heap.size, 0, none⟩
    (((Below.refl _ w).alloc (Nat.le_refl _) _).alloc (by simp) _) (by simp) (two_blocks w _ _ t old ht) (by rw [World.frozen?_alloc_old _ _ t (by have := block_lt ht; simp; omega), World.frozen?_alloc_old _ _ t (Nat.ne_of_lt (block_lt ht))])
  have H := Lib.hid h'; clear h ht hE h'
  go_enter Tryd.func72, Tryd.ntmps72
  go_wp2_with fail
  refine H.out.mono ?_
  rintro e w' ⟨b, rfl, hq⟩
  have HQ := Lib.hid hq; clear hq
  go_wp2
  exact HQ.out

set_option maxHeartbeats 4000000 in
/-- errors.As with a *api.Errno. -/
theorem As_PE (dt : TypeId) (dv : Value) (t : Addr) (old : Value) (w : World) (ht : w.cell? t = some old) (hE : EType w) (Q : Ending → World → Prop)
    (h : ∀ w1 a, Below w.heap.size w w1 → w1.cell? a = some (.pointer (some t)) → w1.cell? t = some old → w1.frozen? t = w.frozen? t → Calls Tryd.prog 111 #[.iface dt dv, .iface 130 (.pointer (some t)), .agg #[hnd 130, .pointer (some a), .int .u64 150], .iface 172 (.agg #[hnd 49])] w1 fun e w' => ∃ b, e = .returned (.bool b) ∧ Q e w') :
    Calls Tryd.prog 72 #[.iface dt dv, .iface 130 (.pointer (some t))] w Q := by
  have x4 := ext108; have x6 := ext109; have x7 := ext152; have x8 := ext110; have x9 := ext164; have x10 := ext165
  have f6 := Tryd.valueOfPE; have f7 := Tryd.typePE; have mK := Tryd.methodKind; have mE := Tryd.methodElem; have mI := Tryd.methodImplements
  have k1 := Tryd.kindPE; have k2 := Tryd.kindE; have e1 := Tryd.elemPE; have i1 := Tryd.implE
  have n8 := Tryd.isNilPE ⟨w.heap.size, 0, none⟩ t ((w.alloc (.cells #[.pointer (some t)] 130)).alloc (.cells #[hnd 130, .pointer (some ⟨w.heap.size, 0, none⟩), .int .u64 150] 152)) (by simp)
  have hg2 : ((w.alloc (.cells #[.pointer (some t)] 130)).alloc (.cells #[hnd 130, .pointer (some ⟨w.heap.size, 0, none⟩), .int .u64 150] 152)).cell? ⟨3, 0, none⟩ = some (.iface 172 (.agg #[hnd 29])) := two_blocks w _ _ _ _ hE
  have h' := h ((w.alloc (.cells #[.pointer (some t)] 130)).alloc (.cells #[hnd 130, .pointer (some ⟨w.heap.size, 0, none⟩), .int .u64 150] 152)) ⟨w.heap.size, 0, none⟩
    (((Below.refl _ w).alloc (Nat.le_refl _) _).alloc (by simp) _) (by simp) (two_blocks w _ _ t old ht) (by rw [World.frozen?_alloc_old _ _ t (by have := block_lt ht; simp; omega), World.frozen?_alloc_old _ _ t (Nat.ne_of_lt (block_lt ht))])
  have H := Lib.hid h'; clear h ht hE h'
  go_enter Tryd.func72, Tryd.ntmps72
  go_wp2_with fail
  refine H.out.mono ?_
  rintro e w' ⟨b, rfl, hq⟩
  have HQ := Lib.hid hq; clear hq
  go_wp2
  exact HQ.out


theorem AsHit.after {w w1 : World} {t : Addr} {v : Value} {e : Ending} {w' : World} (hb : Below w.heap.size w w1) (h : AsHit w1 t v e w') : AsHit w t v e w' := by
  obtain ⟨h1, w2, h2, h3⟩ := h
  exact ⟨h1, w2, hb.trans (h2.mono hb.size), h3⟩
theorem AsMiss.after {w w1 : World} {e : Ending} {w' : World} (hb : Below w.heap.size w w1) (h : AsMiss w1 e w') : AsMiss w e w' := ⟨h.1, hb.trans (h.2.mono hb.size)⟩

/-- errors.As of a *api.Fault, a **api.Fault as the target. -/
theorem as_fault_fault (g : Nat) (t : Addr) (old : Value) (w : World) (ht : w.cell? t = some old) (hf : w.frozen? t = false) (hE : EType w) :
    Calls Tryd.prog 72 #[faultV g, .iface 108 (.pointer (some t))] w (AsHit w t (.pointer (some ⟨g, 0, none⟩))) :=
  As_PF _ _ t old w ht hE _ fun w1 a hb ha h1 h2 => (asFF _ t a old _ w1 ha h1 (h2.trans hf)).mono fun _ _ h => ⟨true, h.1, h.after hb⟩
/-- of a *api.Fault, a *api.Errno as the target. -/
theorem as_fault_errno (g : Nat) (at_ c : Int) (t : Addr) (old : Value) (w : World) (hg : w.heap[g]? = some (faultObj at_ c)) (ht : w.cell? t = some old) (hf : w.frozen? t = false) (hE : EType w) :
    Calls Tryd.prog 72 #[faultV g, .iface 130 (.pointer (some t))] w (AsHit w t (.int .i64 c)) := by
  have hgl : g < w.heap.size := by
    rcases Nat.lt_or_ge g w.heap.size with h | h
    · exact h
    · rw [Array.getElem?_eq_none h] at hg; cases hg
  exact As_PE _ _ t old w ht hE _ fun w1 a hb ha h1 h2 => (asFE g at_ c t a old _ w1 ((hb.block g hgl).trans hg) ha h1 (h2.trans hf)).mono fun _ _ h => ⟨true, h.1, h.after hb⟩
/-- of an api.Errno, a *api.Errno as the target. -/
theorem as_errno_errno (c : Int) (t : Addr) (old : Value) (w : World) (ht : w.cell? t = some old) (hf : w.frozen? t = false) (hE : EType w) :
    Calls Tryd.prog 72 #[.iface 49 (.int .i64 c), .iface 130 (.pointer (some t))] w (AsHit w t (.int .i64 c)) :=
  As_PE _ _ t old w ht hE _ fun w1 a hb ha h1 h2 => (asEE t a c old _ w1 ha h1 (h2.trans hf)).mono fun _ _ h => ⟨true, h.1, h.after hb⟩
/-- of an api.Errno, a **api.Fault as the target. -/
theorem as_errno_fault (c : Int) (t : Addr) (old : Value) (w : World) (ht : w.cell? t = some old) (hE : EType w) :
    Calls Tryd.prog 72 #[.iface 49 (.int .i64 c), .iface 108 (.pointer (some t))] w (AsMiss w) :=
  As_PF _ _ t old w ht hE _ fun w1 a hb _ _ _ => (asEF a c _ w1).mono fun _ _ h => ⟨false, h.1, h.after hb⟩
end Go.Proofs.YtoophonmonojcaaDoor
