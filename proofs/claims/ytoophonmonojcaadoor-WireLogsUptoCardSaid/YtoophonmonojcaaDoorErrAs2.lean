/- Contracts of errors.As itself. -/
import Derived.Test.YtoophonmonojcaaDoorErrAs
namespace Go.Proofs.YtoophonmonojcaaDoor
open Go.RowKit Go.Extern.Stop Go.Stop Go.Extern

set_option maxHeartbeats 4000000 in
/-- errors.As with a **api.Fault. -/
theorem As_PF (dt : TypeId) (dv : Value) (t : Addr) (old : Value) (w : World) (ht : w.cell? t = some old) (hE : EType w) (Q : Ending → World → Prop)
    (h : ∀ w1 a, Below w.heap.size w w1 → w1.cell? a = some (.pointer (some t)) → w1.cell? t = some old → w1.frozen? t = w.frozen? t → Calls Tryd.prog 111 #[.iface dt dv, .iface 108 (.pointer (some t)), .agg #[hnd 108, .pointer (some a), .int .u64 150], .iface 172 (.agg #[hnd 106])] w1 fun e w' => ∃ b, e = .returned (.bool b) ∧ Q e w') :
    Calls Tryd.prog 72 #[.iface dt dv, .iface 108 (.pointer (some t))] w Q := by
  have x4 := ext108; have x6 := ext109; have x7 := ext152; have x8 := ext110; have x9 := ext164; have x10 := ext165
  have f6 := Tryd.valueOfPF; have f7 := Tryd.typePF; have mK := Tryd.methodKind; have mE := Tryd.methodElem; have mI := Tryd.methodImplements
  have k1 := Tryd.kindPF; have k2 := Tryd.kindF; have e1 := Tryd.elemPF; have i1 := Tryd.implF
  have n8 := Tryd.isNilPF ⟨w.heap.size, 0, none⟩ t ((w.alloc (.cells #[.pointer (some t)] 108)).alloc (.cells #[hnd 108, .pointer (some ⟨w.heap.size, 0, none⟩), .int .u64 150] 152)) (by simp)
  have hg2 : ((w.alloc (.cells #[.pointer (some t)] 108)).alloc (.cells #[hnd 108, .pointer (some ⟨w.heap.size, 0, none⟩), .int .u64 150] 152)).cell? ⟨3, 0, none⟩ = some (.iface 172 (.agg #[hnd 29])) := two_blocks w _ _ _ _ hE
  have h' := h ((w.alloc (.cells #[.pointer (some t)] 108)).alloc (.cells #[hnd 108, .pointer (some ⟨w.heap.size, 0, none⟩), .int .u64 150] 152)) ⟨w.heap.size, 0, none⟩
    (((Below.refl _ w).alloc (Nat.le_refl _) _).alloc (by simp) _) (by simp) (two_blocks w _ _ t old ht) (by rw [World.frozen?_alloc_old _ _ t (by have := block_lt ht; simp; omega), World.frozen?_alloc_old _ _ t (Nat.ne_of_lt (block_lt ht))])
  have H := Lib.hid h'; clear h ht hE h'
  go_enter Tryd.func72, Tryd.ntmps72
  go_wp2_with fail
  refine H.out.mono ?_
  rintro e w' ⟨b, rfl, hq⟩
  have HQ := Lib.hid hq; clear hq
  go_wp2
  exact HQ.out

set_option maxHeartbeats 4000000 in
/-- errors.As with a *api.Errno. -/
theorem As_PE (dt : TypeId) (dv : Value) (t : Addr) (old : Value) (w : World) (ht : w.cell? t = some old) (hE : EType w) (Q : Ending → World → Prop)
    (h : ∀ w1 a, Below w.heap.size w w1 → w1.cell? a = some (.pointer (some t)) → w1.cell? t = some old → w1.frozen? t = w.frozen? t → Calls Tryd.prog 111 #[.iface dt dv, .iface 130 (.pointer (some t)), .agg #[hnd 130, .pointer (some a), .int .u64 150], .iface 172 (.agg #[hnd 49])] w1 fun e w' => ∃ b, e = .returned (.bool b) ∧ Q e w') :
    Calls Tryd.prog 72 #[.iface dt dv, .iface 130 (.pointer (some t))] w Q := by
  have x4 := ext108; have x6 := ext109; have x7 := ext152; have x8 := ext110; have x9 := ext164; have x10 := ext165
  have f6 := Tryd.valueOfPE; have f7 := Tryd.typePE; have mK := Tryd.methodKind; have mE := Tryd.methodElem; have mI := Tryd.methodImplements
  have k1 := Tryd.kindPE; have k2 := Tryd.kindE; have e1 := Tryd.elemPE; have i1 := Tryd.implE
  have n8 := Tryd.isNilPE ⟨w.heap.size, 0, none⟩ t ((w.alloc (.cells #[.pointer (some t)] 130)).alloc (.cells #[hnd 130, .pointer (some ⟨w.heap.size, 0, none⟩), .int .u64 150] 152)) (by simp)
  have hg2 : ((w.alloc (.cells #[.pointer (some t)] 130)).alloc (.cells #[hnd 130, .pointer (some ⟨w.heap.size, 0, none⟩), .int .u64 150] 152)).cell? ⟨3, 0, none⟩ = some (.iface 172 (.agg #[hnd 29])) := two_blocks w _ _ _ _ hE
  have h' := h ((w.alloc (.cells #[.pointer (some t)] 130)).alloc (.cells #[hnd 130, .pointer (some ⟨w.heap.size, 0, none⟩), .int .u64 150] 152)) ⟨w.heap.size, 0, none⟩
    (((Below.refl _ w).alloc (Nat.le_refl _) _).alloc (by simp) _) (by simp) (two_blocks w _ _ t old ht) (by rw [World.frozen?_alloc_old _ _ t (by have := block_lt ht; simp; omega), World.frozen?_alloc_old _ _ t (Nat.ne_of_lt (block_lt ht))])
  have H := Lib.hid h'; clear h ht hE h'
  go_enter Tryd.func72, Tryd.ntmps72
  go_wp2_with fail
  refine H.out.mono ?_
  rintro e w' ⟨b, rfl, hq⟩
  have HQ := Lib.hid hq; clear hq
  go_wp2
  exact HQ.out


theorem AsHit.after {w w1 : World} {t : Addr} {v : Value} {e : Ending} {w' : World} (hb : Below w.heap.size w w1) (h : AsHit w1 t v e w') : AsHit w t v e w' := by
  obtain ⟨h1, w2, h2, h3⟩ := h
  exact ⟨h1, w2, hb.trans (h2.mono hb.size), h3⟩
theorem AsMiss.after {w w1 : World} {e : Ending} {w' : World} (hb : Below w.heap.size w w1) (h : AsMiss w1 e w') : AsMiss w e w' := ⟨h.1, hb.trans (h.2.mono hb.size)⟩

/-- errors.As of a *api.Fault, a **api.Fault as the target. -/
theorem as_fault_fault (g : Nat) (t : Addr) (old : Value) (w : World) (ht : w.cell? t = some old) (hf : w.frozen? t = false) (hE : EType w) :
    Calls Tryd.prog 72 #[faultV g, .iface 108 (.pointer (some t))] w (AsHit w t (.pointer (some ⟨g, 0, none⟩))) :=
  As_PF _ _ t old w ht hE _ fun w1 a hb ha h1 h2 => (asFF _ t a old _ w1 ha h1 (h2.trans hf)).mono fun _ _ h => ⟨true, h.1, h.after hb⟩
/-- of a *api.Fault, a *api.Errno as the target. -/
theorem as_fault_errno (g : Nat) (at_ c : Int) (t : Addr) (old : Value) (w : World) (hg : w.heap[g]? = some (faultObj at_ c)) (ht : w.cell? t = some old) (hf : w.frozen? t = false) (hE : EType w) :
    Calls Tryd.prog 72 #[faultV g, .iface 130 (.pointer (some t))] w (AsHit w t (.int .i64 c)) := by
  have hgl : g < w.heap.size := by
    rcases Nat.lt_or_ge g w.heap.size with h | h
    · exact h
    · rw [Array.getElem?_eq_none h] at hg; cases hg
  exact As_PE _ _ t old w ht hE _ fun w1 a hb ha h1 h2 => (asFE g at_ c t a old _ w1 ((hb.block g hgl).trans hg) ha h1 (h2.trans hf)).mono fun _ _ h => ⟨true, h.1, h.after hb⟩
/-- of an api.Errno, a *api.Errno as the target. -/
theorem as_errno_errno (c : Int) (t : Addr) (old : Value) (w : World) (ht : w.cell? t = some old) (hf : w.frozen? t = false) (hE : EType w) :
    Calls Tryd.prog 72 #[.iface 49 (.int .i64 c), .iface 130 (.pointer (some t))] w (AsHit w t (.int .i64 c)) :=
  As_PE _ _ t old w ht hE _ fun w1 a hb ha h1 h2 => (asEE t a c old _ w1 ha h1 (h2.trans hf)).mono fun _ _ h => ⟨true, h.1, h.after hb⟩
/-- of an api.Errno, a **api.Fault as the target. -/
theorem as_errno_fault (c : Int) (t : Addr) (old : Value) (w : World) (ht : w.cell? t = some old) (hE : EType w) :
    Calls Tryd.prog 72 #[.iface 49 (.int .i64 c), .iface 108 (.pointer (some t))] w (AsMiss w) :=
  As_PF _ _ t old w ht hE _ fun w1 a hb _ _ _ => (asEF a c _ w1).mono fun _ _ h => ⟨false, h.1, h.after hb⟩
end Go.Proofs.YtoophonmonojcaaDoor
