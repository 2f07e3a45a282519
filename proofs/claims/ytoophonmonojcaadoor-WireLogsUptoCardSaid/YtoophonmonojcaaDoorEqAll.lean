/- Slices of byte slices that are read; the laws' comparison of them. -/
import Derived.Test.YtoophonmonojcaaDoorEq
namespace Go.Proofs.YtoophonmonojcaaDoor
open Go.RowKit

theorem quiet_Q {P : Program} {f : FuncId} {args : Array Value} {w : World} {n : Nat} {v : Value} (h : Calls P f args (w.drewN n) (RetQ (w.drewN n) v)) :
    Calls P f args (w.drewN n) fun e w'' => e = .returned v ∧ ∃ m, w'' = w.drewN m :=
  h.mono fun _ _ ⟨he, m, hm⟩ => ⟨he, n + m, by rw [← hm, drewN_two]⟩

theorem quiet_Q2 {P : Program} {f : FuncId} {args : Array Value} {w : World} {a b : Nat} {v : Value} (h : Calls P f args (w.drewN (a + b)) (RetQ (w.drewN (a + b)) v)) :
    Calls P f args (w.drewN (a + b)) fun e w'' => e = .returned v ∧ ∃ n, w'' = w.drewN (a + n) :=
  h.mono fun _ _ ⟨he, m, hm⟩ => ⟨he, b + m, by rw [← hm, ← drewN_two, Nat.add_assoc]⟩

/-- The value v is a slice that reads as the bytes p. -/
def Sl (w : World) (v : Value) (p : List UInt8) : Prop := ∃ ao cap, v = .slice ao p.length cap ∧ p.length ≤ cap ∧ Rd w ao p ∧ (ao = none → cap = 0)
theorem Sl.step {w w' : World} {v : Value} {p : List UInt8} (h : Sl w v p) (hb : Below w.heap.size w w') : Sl w' v p := by
  obtain ⟨ao, cap, h1, h2, h3, h4⟩ := h
  exact ⟨ao, cap, h1, h2, h3.step hb, h4⟩
theorem Elem.sl {w : World} {L B : Nat} {v : Value} {p : List UInt8} (h : Elem w L B v p) : Sl w v p := by
  obtain ⟨ao, cap, h1, h2, h3, h4, _⟩ := h
  exact ⟨ao, cap, h1, h2, h3, h4⟩
/-- The cells at 'ao' are slices that read as the lists ps. -/
def RdRows (w : World) (ao : Option Addr) (ps : List (List UInt8)) : Prop :=
  ∀ i, i < ps.length → ∃ b off x, ao = some ⟨b, off, none⟩ ∧ w.cell? ⟨b, off + i, none⟩ = some x ∧ Sl w x (ps.getD i [])
theorem RdRows.step {w w' : World} {ao : Option Addr} {ps : List (List UInt8)} (h : RdRows w ao ps) (hb : Below w.heap.size w w') : RdRows w' ao ps := by
  intro i hi
  obtain ⟨b, off, x, e, hc, hs⟩ := h i hi
  exact ⟨b, off, x, e, (hb.cell (p := ⟨b, off + i, none⟩) (block_lt hc)).trans hc, hs.step hb⟩
theorem RdRows.some {w : World} {ao : Option Addr} {ps : List (List UInt8)} (h : RdRows w ao ps) (hp : 0 < ps.length) :
    ∃ b off, ao = Option.some ⟨b, off, none⟩ ∧ b < w.heap.size ∧ ∀ i, i < ps.length → ∃ x, w.cell? ⟨b, off + i, none⟩ = Option.some x ∧ Sl w x (ps.getD i []) := by
  obtain ⟨b, off, x, e, hc, _⟩ := h 0 hp
  refine ⟨b, off, e, block_lt hc, fun i hi => ?_⟩
  obtain ⟨b', off', x', e', hc', hs'⟩ := h i hi
  rw [e] at e'
  cases e'
  exact ⟨x', hc', hs'⟩
theorem OwnRows.read {w : World} {L B : Nat} {v : Value} {ps : List (List UInt8)} (h : OwnRows w L B v ps) : ∃ ao cap, v = .slice ao ps.length cap ∧ ps.length ≤ cap ∧ RdRows w ao ps ∧ (ao = none → cap = 0) := by
  obtain ⟨ao, cap, h1, h2, h3, h4⟩ := h.shape
  refine ⟨ao, cap, h1, h2, ?_, fun h => (h3 h).2⟩
  intro i hi
  cases ao with
  | none => rw [(h3 rfl).1] at hi; simp at hi
  | some a =>
    obtain ⟨g, rfl, _, cur, _, hc⟩ := h4 a rfl
    obtain ⟨x, hx, hel⟩ := hc i (ps.getD i []) (by rw [List.getD_eq_getElem?_getD, List.getElem?_eq_getElem hi]; rfl)
    exact ⟨g, 0, x, rfl, by rw [Nat.zero_add]; exact hx, hel.sl⟩
theorem RdRows.take {w : World} {ao : Option Addr} {ps : List (List UInt8)} (h : RdRows w ao ps) (m : Nat) : RdRows w ao (ps.take m) := by
  intro i hi
  simp only [List.length_take] at hi
  obtain ⟨b, off, x, e, hc, hs⟩ := h i (by omega)
  refine ⟨b, off, x, e, hc, ?_⟩
  have : (ps.take m).getD i [] = ps.getD i [] := by simp [List.getD_eq_getElem?_getD, show i < m by omega]
  rw [this]; exact hs

theorem eq_any_sl (x y : Value) (p q : List UInt8) (w : World) (hx : Sl w x p) (hy : Sl w y q) (hb : p.length ≤ 140737488355328) : Calls Tryd.prog 42 #[x, y] w (RetQ w (.bool (p == q))) := by
  obtain ⟨a1, c1, rfl, _, h1, _⟩ := hx
  obtain ⟨a2, c2, rfl, _, h2, _⟩ := hy
  exact law03_eq_any a1 a2 _ c1 _ c2 p q w rfl rfl h1 h2 hb

theorem rows_take_succ {α : Type} {l m : List α} (d : α) {k : Nat} (h1 : k < l.length) (h2 : k < m.length) (h : l.take k = m.take k) (hk : l.getD k d = m.getD k d) : l.take (k + 1) = m.take (k + 1) := by
  rw [List.take_succ_eq_append_getElem h1, List.take_succ_eq_append_getElem h2, h]
  rw [List.getD_eq_getElem?_getD, List.getD_eq_getElem?_getD, List.getElem?_eq_getElem h1, List.getElem?_eq_getElem h2] at hk
  simp only [Option.getD_some] at hk
  rw [hk]

set_option maxRecDepth 100000 in
set_option maxHeartbeats 1000000 in
theorem eqAll_any (a1 a2 : Option Addr) (n1 c1 n2 c2 : Nat) (ps qs : List (List UInt8)) (w : World) (h1 : ps.length = n1) (h2 : qs.length = n2) (r1 : RdRows w a1 ps) (r2 : RdRows w a2 qs) (hb : n1 ≤ 140737488355328)
    (hsz : ∀ p ∈ ps, p.length ≤ 140737488355328) :
    Calls Tryd.prog 36 #[.slice a1 n1 c1, .slice a2 n2 c2] w (RetQ w (.bool (ps == qs))) := by
  by_cases hn : n1 = n2
  · subst hn
    rcases Nat.eq_zero_or_pos n1 with h0 | h0
    · subst h0
      obtain rfl : ps = [] := List.eq_nil_of_length_eq_zero h1
      obtain rfl : qs = [] := List.eq_nil_of_length_eq_zero h2
      clear r1 r2 h1 h2 hsz
      go_enter Tryd.func36, Tryd.ntmps36
      go_wp2
      refine wp_loop_rounds 1 ?_
      rw [rounds_succ]
      go_wp2
      go_ret
      exact ⟨rfl, 0, rfl⟩
    · obtain ⟨b1, o1, rfl, _, k1⟩ := r1.some (by omega)
      obtain ⟨b2, o2, rfl, _, k2⟩ := r2.some (by omega)
      rw [h1] at k1
      rw [h2] at k2
      have H1 := Lib.hid h1; have H2 := Lib.hid h2; have K1 := Lib.hid k1; have K2 := Lib.hid k2; have HSZ := Lib.hid hsz
      clear r1 r2 h1 h2 k1 k2 hsz
      go_enter Tryd.func36, Tryd.ntmps36
      go_wp2
      go_loopw [5] (fun i wr => ∃ k nq : Nat, k ≤ n1 ∧ i = .int .i64 k ∧ wr = w.drewN nq ∧ Hid (ps.take k = qs.take k)) (fun i _ => n1 - (intOf i).toNat)
      case atStart => exact ⟨0, 0, Nat.zero_le _, rfl, rfl, rfl⟩
      case round =>
        obtain ⟨k, nq, hk, rfl, rfl, he⟩ := hrel
        by_cases hlt : k < n1
        · obtain ⟨x, g1, s1⟩ := K1.out k hlt
          obtain ⟨y, g2, s2⟩ := K2.out k hlt
          have hpl := HSZ.out (ps.getD k []) (by
            have := H1.out
            rw [List.getD_eq_getElem?_getD, List.getElem?_eq_getElem (by omega)]
            exact List.getElem_mem _)
          have hcall : ∀ nn : Nat, Calls Tryd.prog 42 #[x, y] (w.drewN nn) (RetQ (w.drewN nn) (.bool (ps.getD k [] == qs.getD k []))) :=
            fun nn => eq_any_sl x y _ _ _ (s1.step (below_drewN (Below.refl _ _) _)) (s2.step (below_drewN (Below.refl _ _) _)) hpl
          cases hb : (ps.getD k [] == qs.getD k [])
          all_goals
            rw [hb] at hcall
            have HB := Lib.hid hb
            have HC := Lib.hid hcall
            clear hb hcall s1 s2 hpl
          · go_wp2
            go_quiet ((go_at_call 42; exact quiet_Q2 (HC.out _)))
            go_wp2
            go_ret
            have hne : ps ≠ qs := fun e => by have := HB.out; rw [e] at this; simp at this
            exact ⟨ret_bool (by simp [hne]), _, drewN_two _ _ _⟩
          · go_wp2
            go_quiet ((go_at_call 42; exact quiet_Q2 (HC.out _)))
            go_wp2
            go_roundw
            case rel =>
              refine ⟨k + 1, _, by omega, by go_num, rfl, ?_⟩
              exact rows_take_succ [] (by have := H1.out; omega) (by have := H2.out; omega) he.out (by simpa using HB.out)
            case measure => simp [intOf]; omega
        · obtain rfl : k = n1 := by omega
          go_wp2
          go_ret
          have e := he.out
          rw [List.take_of_length_le (by have := H1.out; omega), List.take_of_length_le (by have := H2.out; omega)] at e
          exact ⟨ret_bool (by simp [e]), _, rfl⟩
  · have t : ((n1 : Int) != (n2 : Int)) = true := by rw [bne_iff_ne]; omega
    have hne : ps ≠ qs := fun e => hn (by rw [← h1, ← h2, e])
    have HN := Lib.hid hne; clear hn h1 h2 r1 r2 hne hsz
    go_enter Tryd.func36, Tryd.ntmps36
    go_wp2
    go_ret
    exact ⟨ret_bool (by simpa using HN.out), 0, rfl⟩
end Go.Proofs.YtoophonmonojcaaDoor
