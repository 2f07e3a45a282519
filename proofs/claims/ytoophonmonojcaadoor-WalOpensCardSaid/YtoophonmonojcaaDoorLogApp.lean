/- Contract of (*wal.Log).Append. -/
import Derived.Test.YtoophonmonojcaaDoorLogAll
import Derived.Test.YtoophonmonojcaaDoorGOwn
namespace Go.Proofs.YtoophonmonojcaaDoor
open Go.RowKit

theorem Own.nil0 (w : World) (B : Nat) : Own w B (.slice none 0 0) [] := World.ownsRow_nil _ _ _ _
/-- What Append leaves. -/
def LAppPost (w : World) (S : Nat → Prop) (B gl gd : Nat) (v : Value) (bs : List UInt8) (s : Nat) (ps : List (List UInt8)) (e : Ending) (w' : World) : Prop :=
  e = .returned .nilIface ∧ ∃ E' S' lv ev v', LogAt w' E' S' gl gd lv ev ps ps ∧ DiskAt w' B gd v' bs s ∧ (∀ k, S k → S' k) ∧ (∀ k, S' k → S k ∨ w.heap.size ≤ k) ∧ (v'.ownBlock = v.ownBlock ∨ ∀ k, v'.ownBlock = some k → w.heap.size ≤ k) ∧ Upd (fun k => S k ∨ DiskIn gd v k) w w' ∧ ∀ k, S' k → ¬ DiskIn gd v' k
set_option maxRecDepth 100000 in
set_option maxHeartbeats 2000000 in
theorem lappend_any (w : World) (E S : Nat → Prop) (B gl gd s : Nat) (v lv ev : Value) (bs : List UInt8) (ps : List (List UInt8)) (h : LogAt w E S gl gd lv ev ps ps) (hd : DiskAt w B gd v bs s) (hdis : ∀ k, S k → ¬ DiskIn gd v k) (hB : B ≤ w.heap.size) (ap : Option Addr) (n cap : Nat) (p : List UInt8) (hl : p.length = n) (hr : Rd w ap p) (hnil : ap = none → cap = 0) (hrlt : ∀ a, ap = some a → ¬ DiskIn gd v a.block)
    (h1 : 1 ≤ n) (h64 : n ≤ 64) (hfit : bs.length + n + 8 ≤ 262144) (hn : ps.length ≤ 1000000) (htot : tot ps ≤ 1000000000) (ht : Tab w) :
    Calls Tryd.prog 61 #[.pointer (some ⟨gl, 0, none⟩), .slice ap n cap] w (LAppPost w S B gl gd v (bs ++ frame p) s (ps ++ [p])) := by
  have HLG := Lib.hid h; have HD := Lib.hid hd; have HDIS := Lib.hid hdis; have HL := Lib.hid hl; have HR := Lib.hid hr; have HNIL := Lib.hid hnil; have HT := Lib.hid ht; have HRLT := Lib.hid hrlt
  have hgl := heap_lt h.cell
  clear h hd hdis hl hr hnil ht hrlt
  go_enter Tryd.func61, Tryd.ntmps61
  go_wp2_with fail
  refine (frame_ok ap n cap p w HL.out HR.out h1 h64 HNIL.out HT.out).mono ?_
  rintro e w1 ⟨g1, rfl, hg1, hrow, hb1⟩
  have hs1 := hb1.size
  have hc0 : w1.cell? ⟨gl, 0, none⟩ = some (.pointer (some ⟨gd, 0, none⟩)) := (HLG.out.keep hb1).c0
  have HROW := Lib.hid hrow; have HB1 := Lib.hid hb1
  clear hrow hb1
  rw [HL.out]
  go_wp2_with fail
  refine (append_any B gd s v bs w1 (HD.out.keep HB1.out) (some ⟨g1, 0, none⟩) (n + 8) (n + 8) (frame p) (by rw [frame_length, HL.out]) HROW.out.rd (fun h => by cases h) (by omega) (by omega)).mono ?_
  rintro e w2 ⟨rfl, v2, hd2, hu2, ho2⟩
  have hs2 := hu2.size
  have hl2 := (HLG.out.keep HB1.out).upd hu2 HDIS.out
  have hr2 : Rd w2 ap p := by
    have := HR.out.step HB1.out
    intro i hi
    obtain ⟨b, off, e, hc⟩ := this i hi
    exact ⟨b, off, e, (World.cell?_of_block (w := w1) (a := ⟨b, off + i, none⟩) (hu2.block b (block_lt hc) (HRLT.out _ e))).trans hc⟩
  have HL2 := Lib.hid hl2; have HD2 := Lib.hid hd2; have HU2 := Lib.hid hu2; have HO2 := Lib.hid ho2; have HR2 := Lib.hid hr2
  clear hl2 hd2 hu2 ho2 hr2 hc0
  go_wp2_with (at_builtin; go_must (with_reducible refine wpList_appendO rfl (.const (.slice none 0 0)) (.tmp 27) rfl w2.heap.size (.slice none 0 0) [] p rfl (Own.nil0 _ _) ap n cap rfl HNIL.out HL.out HR2.out (by simp; omega) (Nat.le_refl _) n (by simp) ?_); intro a3 c3 w3 ho3 hg3 hat3)
  have hb3 : Below w2.heap.size w2 w3 := (Below.refl _ w2).grown hg3 (Nat.le_refl _) (fun q hq => by cases hq)
  have hlt3 : ∀ k, (Value.slice a3 n c3).ownBlock = some k → w2.heap.size ≤ k ∧ k < w3.heap.size := fun k hk => World.ownsRow.lt ho3 k hk
  have hs3 := hb3.size
  have hl3 := (HL2.out.keep hb3).more (T := fun k => (Value.slice a3 n c3).ownBlock = some k) (fun k hk => ⟨fun hS => by have := HL2.out.lt k hS; have := (hlt3 k hk).1; omega, (hlt3 k hk).2⟩)
  have hsl : SlS w3 (fun k => E k ∨ (Value.slice a3 n c3).ownBlock = some k) (.slice a3 n c3) p := (show Own w3 w2.heap.size (.slice a3 n c3) p from ho3).slS (fun k hk => .inr hk) (by have := HL.out; omega)
  have HL3 := Lib.hid hl3; have HSL := Lib.hid hsl; have HD3 := Lib.hid (HD2.out.keep hb3); have HB3 := Lib.hid hb3; have HLT3 := Lib.hid hlt3
  clear hl3 hsl hb3 hlt3 ho3 hg3 hat3
  go_wp2_with fail
  refine (lhold_any w3 _ _ gl gd lv ev ps HL3.out _ p HSL.out hn htot (by have := HL.out; omega)).mono ?_
  rintro e w4 ⟨rfl, S4, lv4, ev4, hl4, hS4a, hS4b, hu4, -⟩
  have hdlt : ∀ k, DiskIn gd v2 k → k < w2.heap.size := HD2.out.lt
  have hd23 : ∀ k, DiskIn gd v2 k → DiskIn gd v k ∨ w1.heap.size ≤ k := fun k hk => by
    rcases hk with rfl | hk
    · exact .inl (.inl rfl)
    · rcases HO2.out with h | h
      · exact .inl (.inr (by rw [← h]; exact hk))
      · exact .inr (h k hk)
  have hSlt : ∀ k, S k → k < w.heap.size := HLG.out.lt
  have hdis4 : ∀ k, (S k ∨ (Value.slice a3 n c3).ownBlock = some k) → ¬ DiskIn gd v2 k := fun k hk hd => by
    rcases hk with hk | hk
    · rcases hd23 k hd with h | h
      · exact HDIS.out k hk h
      · have := hSlt k hk; omega
    · have := (HLT3.out k hk).1; have := hdlt k hd; omega
  have HL4 := Lib.hid hl4; have HD4 := Lib.hid (HD3.out.upd hu4 (fun k hk hS => hdis4 k hS hk)); have HU4 := Lib.hid hu4; have HS4a := Lib.hid hS4a; have HS4b := Lib.hid hS4b; have HDIS4 := Lib.hid hdis4; have HDLT := Lib.hid hdlt
  clear hl4 hS4a hS4b hu4 hdlt hd23 hSlt hdis4
  go_wp2_with fail
  go_ret
  refine ⟨rfl, _, S4, lv4, ev4, v2, HL4.out, HD4.out, fun k hk => HS4a.out k (.inl hk), fun k hk => ?_, ?_, ?_, fun k hk hd => ?_⟩
  · rcases HS4b.out k hk with (h | h) | h
    · exact .inl h
    · exact .inr (by have := (HLT3.out k h).1; omega)
    · exact .inr (by omega)
  · rcases HO2.out with h | h
    · exact .inl h
    · exact .inr fun k hk => by have := h k hk; omega
  · have a1 : Upd (fun k => (S k ∨ DiskIn gd v k) ∨ w.heap.size ≤ k) w w1 := Upd.of_below HB1.out _
    have a2 : Upd (fun k => (S k ∨ DiskIn gd v k) ∨ w.heap.size ≤ k) w1 w2 := HU2.out.mono fun q hq => .inl (.inr hq)
    have a3' : Upd (fun k => (S k ∨ DiskIn gd v k) ∨ w.heap.size ≤ k) w2 w3 := Upd.of_below HB3.out _
    have a4 : Upd (fun k => (S k ∨ DiskIn gd v k) ∨ w.heap.size ≤ k) w3 w4 := HU4.out.mono fun q hq => by
      rcases hq with h | h
      · exact .inl (.inl h)
      · exact .inr (by have := (HLT3.out q h).1; omega)
    have hall := a1.trans (a2.trans (a3'.trans a4 fun _ _ h => h) fun _ _ h => h) fun _ _ h => h
    exact ⟨hall.os, hall.tape, hall.output, hall.size, fun k hk hn => hall.block k hk fun h => h.elim hn (fun h => by omega)⟩
  · rcases HS4b.out k hk with h | h
    · exact HDIS4.out k h hd
    · have := HDLT.out k hd; omega
end Go.Proofs.YtoophonmonojcaaDoor
