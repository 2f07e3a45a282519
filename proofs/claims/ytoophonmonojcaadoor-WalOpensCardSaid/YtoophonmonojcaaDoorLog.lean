/- Contracts of wal.Log: end, hold, Count. -/
import Derived.Test.YtoophonmonojcaaDoorDisk
import Derived.Test.YtoophonmonojcaaDoorGRec
namespace Go.Proofs.YtoophonmonojcaaDoor
open Go.RowKit

/-- Where each record ends: running sums. -/
def endsL : Nat → List (List UInt8) → List Nat
  | _, [] => []
  | a, p :: r => (a + p.length + 8) :: endsL (a + p.length + 8) r
def tot : List (List UInt8) → Nat
  | [] => 0
  | p :: r => p.length + 8 + tot r
theorem endsL_length : ∀ (ps : List (List UInt8)) (a : Nat), (endsL a ps).length = ps.length
  | [], _ => rfl
  | p :: r, a => by simp [endsL, endsL_length r]
theorem endsL_snoc : ∀ (ps : List (List UInt8)) (a : Nat) (p : List UInt8), endsL a (ps ++ [p]) = endsL a ps ++ [a + tot ps + p.length + 8]
  | [], a, p => by simp [endsL, tot]
  | q :: r, a, p => by simp [endsL, tot, endsL_snoc r]; omega
theorem tot_snoc : ∀ (ps : List (List UInt8)) (p : List UInt8), tot (ps ++ [p]) = tot ps + p.length + 8
  | [], p => by simp [tot]
  | q :: r, p => by simp [tot, tot_snoc r]; omega
theorem endsL_last : ∀ (ps : List (List UInt8)) (a : Nat), ps ≠ [] → (endsL a ps)[ps.length - 1]? = some (a + tot ps)
  | [], _, h => absurd rfl h
  | [p], a, _ => by simp [endsL, tot]; omega
  | p :: q :: r, a, _ => by
    have h := endsL_last (q :: r) (a + p.length + 8) (by simp)
    have e : endsL a (p :: q :: r) = (a + p.length + 8) :: endsL (a + p.length + 8) (q :: r) := rfl
    rw [e, show (p :: q :: r).length - 1 = ((q :: r).length - 1) + 1 by simp, List.getElem?_cons_succ, h]
    simp [tot]; omega
def iv (x : Nat) : Value := .int .i64 (x : Int)

/-- The log whose variable is block gl, on the disk whose variable is block gd: its payloads (pl; those whose end is noted: pe). -/
structure LogAt (w : World) (E S : Nat → Prop) (gl gd : Nat) (lv ev : Value) (pl pe : List (List UInt8)) : Prop where
  cell : w.heap[gl]? = some (.cells #[.pointer (some ⟨gd, 0, none⟩), lv, ev] 141 (0, 0))
  list : RowsS w E lv pl
  ends : w.ownsRow 0 3 1 ev pe.length ((endsL 0 pe).map iv)
  gS : S gl
  gE : ¬ E gl
  sub : ∀ k, E k → S k
  lt : ∀ k, S k → k < w.heap.size
  iL : In S E gl lv
  iV : In S E gl ev
  ap : Apart lv ev
theorem LogAt.same {w w' : World} {E S : Nat → Prop} {gl gd : Nat} {lv ev : Value} {pl pe : List (List UInt8)} (h : LogAt w E S gl gd lv ev pl pe) (hs : w.heap.size ≤ w'.heap.size) (hk : ∀ k, k < w.heap.size → S k → w'.heap[k]? = w.heap[k]?) : LogAt w' E S gl gd lv ev pl pe :=
  { h with
    cell := (hk gl (heap_lt h.cell) h.gS).trans h.cell
    lt := fun k hS => Nat.lt_of_lt_of_le (h.lt k hS) hs
    list := h.list.same (fun k hl he => hk k hl (h.sub k he)) (fun k hv => hk k (h.list.lt k hv) (h.iL k hv).1)
    ends := ownsRow_same h.ends fun k hv => hk k (World.ownsRow.lt h.ends k hv).2 (h.iV k hv).1 }
theorem LogAt.keep {w w' : World} {E S : Nat → Prop} {gl gd : Nat} {lv ev : Value} {pl pe : List (List UInt8)} (h : LogAt w E S gl gd lv ev pl pe) (hb : Below w.heap.size w w') : LogAt w' E S gl gd lv ev pl pe := h.same hb.size fun k hl _ => hb.block k hl
theorem LogAt.upd {w w' : World} {E S T : Nat → Prop} {gl gd : Nat} {lv ev : Value} {pl pe : List (List UInt8)} (h : LogAt w E S gl gd lv ev pl pe) (hu : Upd T w w') (hd : ∀ k, S k → ¬ T k) : LogAt w' E S gl gd lv ev pl pe := h.same hu.size fun k hl hS => hu.block k hl (hd k hS)
theorem LogAt.more {w : World} {E S T : Nat → Prop} {gl gd : Nat} {lv ev : Value} {pl pe : List (List UInt8)} (h : LogAt w E S gl gd lv ev pl pe) (hT : ∀ k, T k → ¬ S k ∧ k < w.heap.size) : LogAt w (fun k => E k ∨ T k) (fun k => S k ∨ T k) gl gd lv ev pl pe := by
  have up : ∀ v, In S E gl v → In (fun k => S k ∨ T k) (fun k => E k ∨ T k) gl v := fun v hv k hk => by
    obtain ⟨h1, h2, h3⟩ := hv k hk
    exact ⟨.inl h1, fun hx => hx.elim h2 (fun ht => (hT k ht).1 h1), h3⟩
  exact { h with
    list := h.list.mono fun k hk => .inl hk
    gS := .inl h.gS
    gE := fun hx => hx.elim h.gE (fun ht => (hT gl ht).1 h.gS)
    sub := fun k hk => hk.elim (fun h' => .inl (h.sub k h')) .inr
    lt := fun k hk => hk.elim (h.lt k) (fun ht => (hT k ht).2)
    iL := up _ h.iL
    iV := up _ h.iV }
theorem LogAt.c1 {w : World} {E S : Nat → Prop} {gl gd : Nat} {lv ev : Value} {pl pe : List (List UInt8)} (h : LogAt w E S gl gd lv ev pl pe) : w.cell? ⟨gl, 1, none⟩ = some lv := by simp [World.cell?, h.cell]
theorem LogAt.c2 {w : World} {E S : Nat → Prop} {gl gd : Nat} {lv ev : Value} {pl pe : List (List UInt8)} (h : LogAt w E S gl gd lv ev pl pe) : w.cell? ⟨gl, 2, none⟩ = some ev := by simp [World.cell?, h.cell]
theorem LogAt.c0 {w : World} {E S : Nat → Prop} {gl gd : Nat} {lv ev : Value} {pl pe : List (List UInt8)} (h : LogAt w E S gl gd lv ev pl pe) : w.cell? ⟨gl, 0, none⟩ = some (.pointer (some ⟨gd, 0, none⟩)) := by simp [World.cell?, h.cell]
theorem LogAt.frozen {w : World} {E S : Nat → Prop} {gl gd : Nat} {lv ev : Value} {pl pe : List (List UInt8)} (h : LogAt w E S gl gd lv ev pl pe) (i : Nat) : w.frozen? ⟨gl, i, none⟩ = false := by simp [World.frozen?, h.cell]

/-- One more payload in the list. -/
theorem LogAt.setList {w w1 : World} {E S : Nat → Prop} {gl gd : Nat} {lv ev : Value} {pl pe : List (List UInt8)} (h : LogAt w E S gl gd lv ev pl pe) {vs : List Value} (h2 : vs.length = pl.length) (h3 : ∀ (i : Nat) (x : Value) (p : List UInt8), vs[i]? = some x → pl[i]? = some p → SlS w E x p)
    {pv : Value} {p : List UInt8} {g1 cap1 : Nat} (hown : w1.ownsRow 0 27 1 (.slice (some ⟨g1, 0, none⟩) (pl.length + 1) cap1) (pl.length + 1) (vs ++ [pv])) (hk : ∀ k, k < w.heap.size → some k ≠ lv.ownBlock → w1.heap[k]? = w.heap[k]?) (hs : w.heap.size ≤ w1.heap.size) (hat : lv.ownBlock = some g1 ∨ w.heap.size ≤ g1) (hp : SlS w E pv p) :
    LogAt (w1.setCell ⟨gl, 1, none⟩ (.slice (some ⟨g1, 0, none⟩) (pl.length + 1) cap1)) E (fun k => S k ∨ k = g1) gl gd (.slice (some ⟨g1, 0, none⟩) (pl.length + 1) cap1) ev (pl ++ [p]) pe := by
  have hgs := heap_lt h.cell
  have hE : ∀ k, k < w.heap.size → E k → w1.heap[k]? = w.heap[k]? := fun k hl he => hk k hl fun e => (h.iL k e.symm).2.1 he
  have hgs1 : w1.heap[gl]? = some (.cells #[.pointer (some ⟨gd, 0, none⟩), lv, ev] 141 (0, 0)) := (hk gl hgs fun e => (h.iL gl e.symm).2.2 rfl).trans h.cell
  have hset : ∀ k, k ≠ gl → (w1.setCell ⟨gl, 1, none⟩ (.slice (some ⟨g1, 0, none⟩) (pl.length + 1) cap1)).heap[k]? = w1.heap[k]? := fun k hk => Below.heap_setCell _ _ _ _ hk
  have ne : ∀ k, E k → k ≠ gl := fun k he e => h.gE (e ▸ he)
  have hg1 : g1 < w1.heap.size := (World.ownsRow.lt hown g1 rfl).2
  have hg1E : ¬ E g1 := fun he => hat.elim (fun e => (h.iL g1 e).2.1 he) (fun e => by have := h.lt g1 (h.sub g1 he); omega)
  have hg1s : g1 ≠ gl := fun e => hat.elim (fun e' => (h.iL g1 e').2.2 e) (fun e' => by omega)
  have hle := fun k hk => (World.ownsRow.lt h.ends k hk).2
  refine { h with
    cell := by rw [heap_set1 hgs1]; rfl
    gS := .inl h.gS
    sub := fun k he => .inl (h.sub k he)
    lt := fun k hS => by
      rw [World.size_setCell]
      rcases hS with hS | rfl
      · exact Nat.lt_of_lt_of_le (h.lt k hS) hs
      · exact hg1
    list := ?_
    ends := ownsRow_same h.ends fun k hv => (hset k (h.iV k hv).2.2).trans (hk k (hle k hv) fun e => h.ap k e.symm hv)
    iL := fun k hk => by
      simp [Value.ownBlock] at hk
      subst hk
      exact ⟨.inr rfl, hg1E, hg1s⟩
    iV := fun k hk => ⟨.inl (h.iV k hk).1, (h.iV k hk).2⟩
    ap := fun k hk hb => by
      simp [Value.ownBlock] at hk
      subst hk
      exact hat.elim (fun e => h.ap g1 e hb) (fun e => by have := hle g1 hb; omega) }
  have hr : RowsS w1 E (.slice (some ⟨g1, 0, none⟩) (pl.length + 1) cap1) (pl ++ [p]) := RowsS.snoc h2 h3 hown hp hE
  refine hr.same (fun k _ he => hset k (ne k he)) (fun k hv => ?_)
  simp [Value.ownBlock] at hv
  subst hv
  exact hset _ hg1s
/-- One more end. -/
theorem LogAt.setEnds {w w1 : World} {E S : Nat → Prop} {gl gd : Nat} {lv ev : Value} {pl pe : List (List UInt8)} (h : LogAt w E S gl gd lv ev pl pe) {p : List UInt8} {g1 cap1 : Nat} (hown : w1.ownsRow 0 3 1 (.slice (some ⟨g1, 0, none⟩) (pe.length + 1) cap1) (pe.length + 1) ((endsL 0 (pe ++ [p])).map iv)) (hk : ∀ k, k < w.heap.size → some k ≠ ev.ownBlock → w1.heap[k]? = w.heap[k]?) (hs : w.heap.size ≤ w1.heap.size) (hat : ev.ownBlock = some g1 ∨ w.heap.size ≤ g1) :
    LogAt (w1.setCell ⟨gl, 2, none⟩ (.slice (some ⟨g1, 0, none⟩) (pe.length + 1) cap1)) E (fun k => S k ∨ k = g1) gl gd lv (.slice (some ⟨g1, 0, none⟩) (pe.length + 1) cap1) pl (pe ++ [p]) := by
  have hgs := heap_lt h.cell
  have hE : ∀ k, k < w.heap.size → E k → w1.heap[k]? = w.heap[k]? := fun k hl he => hk k hl fun e => (h.iV k e.symm).2.1 he
  have hgs1 : w1.heap[gl]? = some (.cells #[.pointer (some ⟨gd, 0, none⟩), lv, ev] 141 (0, 0)) := (hk gl hgs fun e => (h.iV gl e.symm).2.2 rfl).trans h.cell
  have hset : ∀ k, k ≠ gl → (w1.setCell ⟨gl, 2, none⟩ (.slice (some ⟨g1, 0, none⟩) (pe.length + 1) cap1)).heap[k]? = w1.heap[k]? := fun k hk => Below.heap_setCell _ _ _ _ hk
  have ne : ∀ k, E k → k ≠ gl := fun k he e => h.gE (e ▸ he)
  have hg1 : g1 < w1.heap.size := (World.ownsRow.lt hown g1 rfl).2
  have hg1E : ¬ E g1 := fun he => hat.elim (fun e => (h.iV g1 e).2.1 he) (fun e => by have := h.lt g1 (h.sub g1 he); omega)
  have hg1s : g1 ≠ gl := fun e => hat.elim (fun e' => (h.iV g1 e').2.2 e) (fun e' => by omega)
  have hll := h.list.lt
  exact { h with
    cell := by rw [heap_set1 hgs1]; rfl
    gS := .inl h.gS
    sub := fun k he => .inl (h.sub k he)
    lt := fun k hS => by
      rw [World.size_setCell]
      rcases hS with hS | rfl
      · exact Nat.lt_of_lt_of_le (h.lt k hS) hs
      · exact hg1
    list := h.list.same (fun k hl he => (hset k (ne k he)).trans (hE k hl he)) (fun k hv => (hset k (h.iL k hv).2.2).trans (hk k (hll k hv) fun e => h.ap k hv e.symm))
    ends := by
      have e : (pe ++ [p]).length = pe.length + 1 := by simp
      rw [e]
      exact ownsRow_same hown fun k hv => by
        simp [Value.ownBlock] at hv
        subst hv
        exact hset _ hg1s
    iV := fun k hk => by
      simp [Value.ownBlock] at hk
      subst hk
      exact ⟨.inr rfl, hg1E, hg1s⟩
    iL := fun k hk => ⟨.inl (h.iL k hk).1, (h.iL k hk).2⟩
    ap := fun k hk hb => by
      simp [Value.ownBlock] at hb
      subst hb
      exact hat.elim (fun e => h.ap g1 hk e) (fun e => by have := hll g1 hk; omega) }

set_option maxRecDepth 100000 in
set_option maxHeartbeats 1000000 in
/-- end, where the ends' row is known (the list may be one longer already). -/
theorem end_any (gl : Nat) (ev : Value) (ps : List (List UInt8)) (w : World) (hc : w.cell? ⟨gl, 2, none⟩ = some ev) (he : w.ownsRow 0 3 1 ev ps.length ((endsL 0 ps).map iv)) (hn : ps.length ≤ 1000000) :
    Calls Tryd.prog 128 #[.pointer (some ⟨gl, 0, none⟩)] w (RetQ w (.int .i64 (tot ps : Int))) := by
  obtain ⟨ao, cap, rfl, hcap, hnone, hs⟩ := ownsRow_shape he
  rcases Nat.eq_zero_or_pos ps.length with h0 | h0
  · obtain rfl : ps = [] := List.eq_nil_of_length_eq_zero h0
    clear hs hnone he
    go_enter Tryd.func128, Tryd.ntmps128
    go_wp2
    go_ret
    exact ⟨rfl, 0, rfl⟩
  · cases ao with
    | none => have := (hnone rfl).1; omega
    | some a =>
      obtain ⟨g, rfl, cur, hg, hcell⟩ := hs a rfl
      have hlast : w.cell? ⟨g, ps.length - 1, none⟩ = some (.int .i64 (tot ps : Int)) := by
        refine hcell _ _ ?_
        rw [List.getElem?_map, endsL_last ps 0 (fun h => by rw [h] at h0; simp at h0)]
        simp [iv]
      clear hs hnone he hcell hg
      obtain ⟨n, hn'⟩ : ∃ n, n = ps.length := ⟨_, rfl⟩
      obtain ⟨t, ht⟩ : ∃ t, t = tot ps := ⟨_, rfl⟩
      rw [← hn'] at hc hn hcap h0 hlast
      rw [← ht] at hlast ⊢
      clear hn' ht
      go_enter Tryd.func128, Tryd.ntmps128
      go_wp2
      go_quiet (fail)
      go_wp2
      go_ret
      exact ⟨rfl, _, rfl⟩

/-- What hold leaves. -/
def LHoldPost (w : World) (E S : Nat → Prop) (gl gd : Nat) (ps : List (List UInt8)) (e : Ending) (w' : World) : Prop :=
  e = .returned (.tuple #[]) ∧ ∃ S' lv ev, LogAt w' E S' gl gd lv ev ps ps ∧ (∀ k, S k → S' k) ∧ (∀ k, S' k → S k ∨ w.heap.size ≤ k) ∧ Upd S w w' ∧ ∀ k, k < w.heap.size → E k → w'.heap[k]? = w.heap[k]?
end Go.Proofs.YtoophonmonojcaaDoor
