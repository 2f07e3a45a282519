/- Contracts of package octet's Reader. -/
import Derived.Test.YtoophonmonojcaaDoorOpen
namespace Go.Proofs.YtoophonmonojcaaDoor
open Go.RowKit

/-- A reader over the bytes l, at a place, with its first error. -/
def ReaderAt (w : World) (g gb : Nat) (l : List UInt8) (at_ : Nat) (ev : Value) : Prop :=
  w.heap[g]? = some (.cells #[.slice (some ⟨gb, 0, none⟩) l.length l.length, .int .i64 at_, ev] 185 (0, 0)) ∧ Row w gb l
theorem ReaderAt.cells {w : World} {g gb : Nat} {l : List UInt8} {at_ : Nat} {ev : Value} (h : ReaderAt w g gb l at_ ev) :
    w.cell? ⟨g, 0, none⟩ = some (.slice (some ⟨gb, 0, none⟩) l.length l.length) ∧ w.cell? ⟨g, 1, none⟩ = some (.int .i64 at_) ∧ w.cell? ⟨g, 2, none⟩ = some ev ∧ ∀ o, w.frozen? ⟨g, o, none⟩ = false := by
  obtain ⟨h1, _⟩ := h
  refine ⟨?_, ?_, ?_, fun o => ?_⟩ <;> simp [World.cell?, World.frozen?, h1]

theorem ReaderAt.ne {w : World} {g gb : Nat} {l : List UInt8} {at_ : Nat} {ev : Value} (h : ReaderAt w g gb l at_ ev) : gb ≠ g := by
  rintro rfl
  have h1 := h.1
  rw [h.2] at h1
  simp at h1
theorem ReaderAt.lt {w : World} {g gb : Nat} {l : List UInt8} {at_ : Nat} {ev : Value} (h : ReaderAt w g gb l at_ ev) : g < w.heap.size := by
  rcases Nat.lt_or_ge g w.heap.size with h1 | h1
  · exact h1
  · have := h.1; rw [Array.getElem?_eq_none h1] at this; cases this
theorem ReaderAt.below {B : Nat} {w w' : World} {g gb : Nat} {l : List UInt8} {at_ : Nat} {ev : Value} (h : ReaderAt w g gb l at_ ev) (hb : Below B w w') (hg : g < B) (hgb : gb < B) : ReaderAt w' g gb l at_ ev :=
  ⟨(hb.block g hg).trans h.1, h.2.below hb hgb⟩
theorem ReaderAt.set1 {w : World} {g gb : Nat} {l : List UInt8} {at_ : Nat} {ev : Value} (h : ReaderAt w g gb l at_ ev) (x : Nat) : ReaderAt (w.setCell ⟨g, 1, none⟩ (.int .i64 x)) g gb l x ev := by
  refine ⟨?_, ?_⟩
  · have h1 := h.1
    simp [World.setCell, Array.getElem?_modify, h1]
  · rw [Row, Below.heap_setCell _ _ _ _ h.ne]; exact h.2
theorem ReaderAt.set2 {w : World} {g gb : Nat} {l : List UInt8} {at_ : Nat} {ev : Value} (h : ReaderAt w g gb l at_ ev) (x : Value) : ReaderAt (w.setCell ⟨g, 2, none⟩ x) g gb l at_ x := by
  refine ⟨?_, ?_⟩
  · have h1 := h.1
    simp [World.setCell, Array.getElem?_modify, h1]
  · rw [Row, Below.heap_setCell _ _ _ _ h.ne]; exact h.2
theorem ReaderAt.drewN {w : World} {g gb : Nat} {l : List UInt8} {at_ : Nat} {ev : Value} (h : ReaderAt w g gb l at_ ev) (n : Nat) : ReaderAt (w.drewN n) g gb l at_ ev := h
theorem grown_setCell (w : World) (a : Addr) (u : Value) : w.grownBy (w.setCell a u) (some a.block) :=
  ⟨rfl, rfl, rfl, by simp [World.setCell], fun k _ hk => Below.heap_setCell _ _ _ _ (fun e => hk (by rw [e]))⟩
theorem grown_trans {w w1 w2 : World} {r : Option Nat} (h : w.grownBy w1 r) (h' : w1.grownBy w2 r) : w.grownBy w2 r :=
  ⟨h'.os.trans h.os, h'.tape.trans h.tape, h'.output.trans h.output, Nat.le_trans h.size h'.size, fun k hk hr => (h'.block k (Nat.lt_of_lt_of_le hk h.size) hr).trans (h.block k hk hr)⟩
theorem grown_drewN (w : World) (n : Nat) (r : Option Nat) : w.grownBy (w.drewN n) r := ⟨rfl, rfl, rfl, Nat.le_refl _, fun _ _ _ => rfl⟩
theorem grown_below {w w' : World} {r : Option Nat} (h : Below w.heap.size w w') : w.grownBy w' r := ⟨h.os, h.tape, h.output, h.size, fun k hk _ => h.block k hk⟩

/-- next handed back the next n bytes. -/
def NextOk (w : World) (g gb : Nat) (l : List UInt8) (at_ n : Nat) (e : Ending) (w' : World) : Prop :=
  ∃ ao c, e = .returned (.slice ao n c) ∧ n ≤ c ∧ Rd w' ao ((l.drop at_).take n) ∧ ReaderAt w' g gb l (at_ + n) .nilIface ∧ w.grownBy w' (some g)

theorem next_end {w : World} {g gb : Nat} {l : List UInt8} {at_ : Nat} (hr : ReaderAt w g gb l at_ .nilIface) (n k : Nat) (hle : at_ + n ≤ l.length) (e : Ending) (o : Nat) (ho : o = at_ ∨ n = 0) (x : Int) (hx : x = ((at_ + n : Nat) : Int)) (c : Nat) (hc : n ≤ c)
    (he : e = .returned (.slice (some ⟨gb, o, none⟩) n c)) : NextOk w g gb l at_ n e ((w.drewN k).setCell ⟨g, 1, none⟩ (.int .i64 x)) := by
  subst hx
  have h2 := (hr.drewN k).set1 (at_ + n)
  refine ⟨_, c, he, hc, ?_, h2, grown_trans (grown_drewN w k _) (grown_setCell _ ⟨g, 1, none⟩ _)⟩
  intro i hi
  simp only [List.length_take, List.length_drop] at hi
  have := h2.2.cell (at_ + i) (by omega)
  refine ⟨gb, o, rfl, ?_⟩
  rcases ho with rfl | h0
  · rw [this]
    simp [List.getD_eq_getElem?_getD, show i < n by omega]
  · omega

set_option maxHeartbeats 1000000 in
theorem next_ok (g gb : Nat) (l : List UInt8) (at_ n : Nat) (w : World) (hr : ReaderAt w g gb l at_ .nilIface) (hle : at_ + n ≤ l.length) (hl : l.length ≤ 140737488355328) :
    Calls Tryd.prog 137 #[.pointer (some ⟨g, 0, none⟩), .int .i64 n] w (NextOk w g gb l at_ n) := by
  obtain ⟨c0, c1, c2, cf⟩ := hr.cells
  have HR := Lib.hid hr; clear hr
  obtain ⟨m, hm⟩ : ∃ m, m = l.length := ⟨_, rfl⟩
  rw [← hm] at c0 hle hl
  have HM := Lib.hid hm; clear hm
  have t1 : decide ((n : Int) < 0) = false := by simp
  have t2 : decide ((m : Int) - at_ < (n : Int)) = false := by simp; omega
  go_enter Tryd.func137, Tryd.ntmps137
  go_wp2_with fail
  go_quiet (fail)
  go_wp2_with fail
  go_quiet (fail)
  go_wp2_with fail
  all_goals
    go_ret
    first
      | exact next_end HR.out n _ (by have := HM.out; omega) _ at_ (.inl rfl) _ (by omega) (m - at_) (by omega) rfl
      | exact next_end HR.out n _ (by have := HM.out; omega) _ 0 (.inr (by omega)) _ (by omega) 0 (by omega) rfl

/-- next found too few bytes. -/
def NextShort (w : World) (g gb : Nat) (l : List UInt8) (at_ : Nat) (e : Ending) (w' : World) : Prop :=
  e = .returned (.slice none 0 0) ∧ ∃ ge, w.heap.size ≤ ge ∧ w'.heap[ge]? = some (faultObj at_ 10) ∧ ReaderAt w' g gb l at_ (faultV ge) ∧ w.grownBy w' (some g)

set_option maxHeartbeats 1000000 in
theorem next_short (g gb : Nat) (l : List UInt8) (at_ n : Nat) (w : World) (hr : ReaderAt w g gb l at_ .nilIface) (hle : l.length < at_ + n) (ha : at_ ≤ l.length) (hl : l.length ≤ 140737488355328) :
    Calls Tryd.prog 137 #[.pointer (some ⟨g, 0, none⟩), .int .i64 n] w (NextShort w g gb l at_) := by
  obtain ⟨c0, c1, c2, cf⟩ := hr.cells
  have hg := hr.lt
  have hgb := hr.2.lt
  have HR := Lib.hid hr; clear hr
  obtain ⟨m, hm⟩ : ∃ m, m = l.length := ⟨_, rfl⟩
  rw [← hm] at c0 hle hl ha
  have HM := Lib.hid hm; clear hm
  have t1 : decide ((n : Int) < 0) = false := by simp
  have t2 : decide ((m : Int) - at_ < (n : Int)) = true := by simp; omega
  go_enter Tryd.func137, Tryd.ntmps137
  go_wp2_with fail
  go_quiet (fail)
  go_wp2_with (go_at_call 74; refine (wrap_new _ _ _).mono ?_; rintro e w1 ⟨ge, rfl, hN⟩; obtain ⟨hc1, hf1⟩ := bcell ((below_drewN (Below.refl w.heap.size w) nq).trans hN.2.2); have HN := Lib.hid hN; clear hN)
  go_ret
  obtain ⟨hge, hgo, hB⟩ := HN.out
  have hge' : w.heap.size ≤ ge := hge
  have h2 := ((HR.out.drewN nq).below hB hg hgb).set2 (faultV ge)
  refine ⟨rfl, ge, hge, ?_, h2, grown_trans (grown_trans (grown_drewN w nq _) (grown_below hB)) (grown_setCell _ ⟨g, 2, none⟩ _)⟩
  rw [Below.heap_setCell _ _ _ _ (by simp; omega)]
  exact hgo

/-- next behind an error. -/
def NextErr (w : World) (e : Ending) (w' : World) : Prop := e = .returned (.slice none 0 0) ∧ ∃ k, w.drewN k = w'

set_option maxHeartbeats 1000000 in
theorem next_err (g gb : Nat) (l : List UInt8) (at_ n ge : Nat) (w : World) (hr : ReaderAt w g gb l at_ (faultV ge)) :
    Calls Tryd.prog 137 #[.pointer (some ⟨g, 0, none⟩), .int .i64 n] w (NextErr w) := by
  obtain ⟨c0, c1, c2, cf⟩ := hr.cells
  clear hr
  obtain ⟨m, hm⟩ : ∃ m, m = l.length := ⟨_, rfl⟩
  rw [← hm] at c0
  clear hm
  go_enter Tryd.func137, Tryd.ntmps137
  go_wp2_with fail
  go_quiet (fail)
  go_wp2_with fail
  go_ret
  exact ⟨rfl, _, rfl⟩
end Go.Proofs.YtoophonmonojcaaDoor
