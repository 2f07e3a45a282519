/- Contract of wal.Open. -/
import Derived.Test.YtoophonmonojcaaDoorLogHold
import Derived.Test.YtoophonmonojcaaDoorGEq
import Derived.Test.YtoophonmonojcaaDoorGErr
namespace Go.Proofs.YtoophonmonojcaaDoor
open Go.RowKit

theorem tot_joined : ∀ ps : List (List UInt8), tot ps = (joined ps).length
  | [] => rfl
  | p :: r => by
    have h := tot_joined r
    have e : joined (p :: r) = frame p ++ joined r := rfl
    rw [e, List.length_append, frame_length, tot, h]
theorem length_le_tot : ∀ ps : List (List UInt8), ps.length ≤ tot ps
  | [] => Nat.le_refl _
  | p :: r => by have := length_le_tot r; simp [tot]; omega
theorem tot_take_le : ∀ (ps : List (List UInt8)) (k : Nat), tot (ps.take k) ≤ tot ps
  | [], k => by simp
  | p :: r, 0 => by simp [tot]
  | p :: r, k + 1 => by have := tot_take_le r k; simp [tot]; omega
theorem take_snocD (ps : List (List UInt8)) (k : Nat) (h : k < ps.length) : ps.take k ++ [ps.getD k []] = ps.take (k + 1) := by
  rw [List.take_succ_eq_append_getElem h, List.getD_eq_getElem?_getD, List.getElem?_eq_getElem h]; rfl
theorem cells1 {w : World} {g : Nat} {v : Value} {t : TypeId} (h : w.heap[g]? = some (.cells #[v] t (0, 0))) : w.cell? ⟨g, 0, none⟩ = some v ∧ w.frozen? ⟨g, 0, none⟩ = false := by simp [World.cell?, World.frozen?, h]
/-- A new log. -/
theorem log_new (w : World) (gd : Nat) (E : Nat → Prop) (hE : ∀ k, E k → k < w.heap.size) : LogAt (w.alloc (.cells #[.pointer (some ⟨gd, 0, none⟩), .slice none 0 0, .slice none 0 0] 141)) E (fun k => E k ∨ k = w.heap.size) w.heap.size gd (.slice none 0 0) (.slice none 0 0) [] [] := by
  have hI : In (fun k => E k ∨ k = w.heap.size) E w.heap.size (.slice none 0 0) := fun k hk => by cases hk
  exact ⟨heap_alloc_new w _, RowsS.nil _ _, World.ownsRow_nil _ _ _ _, .inr rfl, fun h => by have := hE _ h; omega, fun k h => .inl h, fun k h => by
    rcases h with h | h
    · have := hE k h; simp; omega
    · rw [h]; simp, hI, hI, fun k hk => by cases hk⟩
/-- The rows of bytes made between two sizes of the memory. -/
def NewBytes (lo : Nat) (w : World) (k : Nat) : Prop := lo ≤ k ∧ ∃ cs, w.heap[k]? = some (.cells cs 5 (0, 0))
theorem Elem.slS {w : World} {B : Nat} {v : Value} {p : List UInt8} (h : Elem w 0 B v p) (hp : p.length ≤ 140737488355328) : SlS w (NewBytes B w) v p := by
  obtain ⟨ao, cap, h1, h2, h3, h4, h5⟩ := h
  refine ⟨ao, cap, h1, h2, h3, h4, fun hne a ha => ?_, hp⟩
  rcases h5 hne a ha with h | ⟨hB, cs, hc⟩
  · omega
  · exact ⟨⟨hB, cs, hc⟩, cs, hc⟩
/-- What Open leaves. -/
def OpenPost (w : World) (B gd : Nat) (v : Value) (bs : List UInt8) (s : Nat) (e : Ending) (w' : World) : Prop :=
  ∃ gl lv ev E S v' er, e = .returned (.tuple #[.pointer (some ⟨gl, 0, none⟩), er]) ∧ LogAt w' E S gl gd lv ev (scan bs).1 (scan bs).1 ∧ DiskAt w' B gd v' (bs.take (scan bs).2.1) (min s (scan bs).2.1) ∧
    (∀ k, S k → w.heap.size ≤ k) ∧ Upd (DiskIn gd v) w w' ∧ (v'.ownBlock = v.ownBlock ∨ ∀ k, v'.ownBlock = some k → w.heap.size ≤ k) ∧ ((er = .nilIface ∧ (scan bs).2.2 = 0) ∨ ((scan bs).2.2 ≠ 0 ∧ ∃ g, er = faultV g)) ∧ ∀ k, S k → ¬ DiskIn gd v' k

set_option maxRecDepth 100000 in
set_option maxHeartbeats 2000000 in
theorem lopen_any (B gd s : Nat) (v : Value) (bs : List UInt8) (w : World) (h : DiskAt w B gd v bs s) (ht : Tab w) (hE : EType w) :
    Calls Tryd.prog 56 #[.pointer (some ⟨gd, 0, none⟩)] w (OpenPost w B gd v bs s) := by
  have hmax := h.max
  have hsyn := h.syn
  have hdl := h.lt
  have hgdl : gd < w.heap.size := hdl gd (.inl rfl)
  have HD := Lib.hid h; have HT := Lib.hid ht; have HE := Lib.hid hE; have HDL := Lib.hid hdl
  clear h ht hE hdl
  have hfs := fits_scan bs
  have htl : tot (scan bs).1 ≤ bs.length := by
    rw [tot_joined, hfs.2.1, List.length_take]; omega
  have HFS := Lib.hid hfs
  clear hfs
  go_enter Tryd.func56, Tryd.ntmps56
  go_wp2_with fail
  refine (bytes_any B gd s v bs w HD.out).mono ?_
  rintro e w1 ⟨gB, rfl, hgB, hrow, hb1⟩
  have hs1 := hb1.size
  have HROW := Lib.hid hrow; have HB1 := Lib.hid hb1
  clear hrow hb1
  go_wp2_with fail
  refine (scan_any (some ⟨gB, 0, none⟩) bs.length bs.length bs w1 rfl HROW.out.rd (Nat.le_refl _) (by omega) (HT.out.step HB1.out)).mono ?_
  rintro e w2 ⟨v2, ev, rfl, hown, hev, hb2⟩
  have hs2 := hb2.size
  have HB2 := Lib.hid (HB1.out.trans (hb2.mono hs1))
  have HEV := Lib.hid hev
  obtain ⟨a2, c2, rfl, hc2, hnone, hat2⟩ := hown.shape
  have HAT := Lib.hid hat2; have HNONE := Lib.hid hnone
  clear hown hb2 hev hat2 hnone
  obtain ⟨n, hn⟩ : ∃ n, n = (scan bs).1.length := ⟨_, rfl⟩
  obtain ⟨good, hgood⟩ : ∃ good, good = (scan bs).2.1 := ⟨_, rfl⟩
  have hnt : n ≤ 262144 := by have := length_le_tot (scan bs).1; omega
  rw [← hn, ← hgood]
  rw [← hn] at hc2
  have HN := Lib.hid hn; have HGOOD := Lib.hid hgood
  have hl3 := log_new w2 gd (NewBytes w1.heap.size w2) (fun k hk => by obtain ⟨_, cs, hc⟩ := hk; exact heap_lt hc)
  have hb3 := balloc w2 (.cells #[.pointer (some ⟨gd, 0, none⟩), .slice none 0 0, .slice none 0 0] 141)
  clear hn hgood
  go_wp2_with fail
  revert hl3 hb3
  generalize hw3 : World.alloc _ _ = w3
  intro hl3 hb3
  have hs3 : w3.heap.size = w2.heap.size + 1 := by rw [← hw3]; simp
  have HL3 := Lib.hid hl3; have HB3 := Lib.hid hb3
  clear hw3 hl3 hb3
  go_loopw [23] (fun i wr => ∃ (k : Nat) (lv ev : Value) (S : Nat → Prop), k ≤ n ∧ i = .int .i64 k ∧ LogAt wr (NewBytes w1.heap.size w2) S w2.heap.size gd lv ev ((scan bs).1.take k) ((scan bs).1.take k) ∧ (∀ q, S q → (NewBytes w1.heap.size w2 q ∨ q = w2.heap.size) ∨ w3.heap.size ≤ q) ∧ Upd (fun q => NewBytes w1.heap.size w2 q ∨ q = w2.heap.size) w3 wr ∧ ∀ q, q < w3.heap.size → NewBytes w1.heap.size w2 q → wr.heap[q]? = w3.heap[q]?) (fun i _ => n - (intOf i).toNat)
  case atStart => exact ⟨0, _, _, _, Nat.zero_le _, rfl, HL3.out, fun q hq => .inl hq, Upd.refl _ _, fun _ _ _ => rfl⟩
  case round =>
    obtain ⟨k, lv, ev', S, hk, rfl, hl, hS, hu, hEk⟩ := hrel
    by_cases hlt : k < n
    · cases a2 with
      | none => have := (HNONE.out rfl).1; rw [HN.out, this] at hlt; simp at hlt
      | some a =>
        obtain ⟨gv, rfl, hgv, cur, hcur, hel⟩ := HAT.out a rfl
        have hkl : k < (scan bs).1.length := by have := HN.out; omega
        obtain ⟨x, hx, hxe⟩ := hel k ((scan bs).1.getD k []) (by rw [List.getD_eq_getElem?_getD, List.getElem?_eq_getElem hkl]; rfl)
        have hgvS : ¬ (NewBytes w1.heap.size w2 gv ∨ gv = w2.heap.size) := by
          rintro (⟨_, cs, hc⟩ | e)
          · rw [hcur] at hc; injection hc with hc; injection hc with _ hc _; exact absurd hc (by decide)
          · have := heap_lt hcur; omega
        have hgvl := heap_lt hcur
        have hblk : wr.heap[gv]? = w2.heap[gv]? := (hu.block gv (by omega) hgvS).trans (HB3.out.block gv hgvl)
        have hxr : wr.cell? ⟨gv, k, none⟩ = some x := (World.cell?_of_block (w := w2) (a := ⟨gv, k, none⟩) hblk).trans hx
        have hpl : ((scan bs).1.getD k []).length ≤ 64 := (HFS.out.1 _ (by rw [List.getD_eq_getElem?_getD, List.getElem?_eq_getElem hkl]; exact List.getElem_mem _)).2
        have hsl : SlS wr (NewBytes w1.heap.size w2) x ((scan bs).1.getD k []) := (hxe.slS (by omega)).same fun q hq hqe => (hEk q (by omega) hqe).trans (HB3.out.block q hq)
        obtain ⟨ax, cx, rfl, -⟩ := id hsl
        have HSL := Lib.hid hsl; have HL := Lib.hid hl; have HS := Lib.hid hS; have HU := Lib.hid hu; have HEK := Lib.hid hEk
        obtain ⟨px, hpx⟩ : ∃ px, px = ((scan bs).1.getD k []).length := ⟨_, rfl⟩
        have HPX := Lib.hid hpx
        rw [← hpx] at hxr
        clear hsl hl hS hu hEk hxe hx hel hcur hblk hgvS hpx
        go_wp2_with fail
        rw [HPX.out]
        refine (lhold_any wr _ _ _ gd lv ev' _ HL.out _ ((scan bs).1.getD k []) HSL.out (by simp; omega) (by have := tot_take_le (scan bs).1 k; omega) (by omega)).mono ?_
        rintro e wr2 ⟨rfl, S2, lv2, ev2, hl2, hS2a, hS2b, hu2, hE2⟩
        rw [take_snocD _ _ hkl] at hl2
        have HL2 := Lib.hid hl2; have HS2b := Lib.hid hS2b; have HU2 := Lib.hid hu2; have HE2 := Lib.hid hE2
        have hsr : w3.heap.size ≤ wr.heap.size := HU.out.size
        clear hl2 hS2a hS2b hu2 hE2
        go_wp2_with fail
        go_roundw
        case rel =>
          refine ⟨k + 1, lv2, ev2, S2, by omega, by go_num, HL2.out, fun q hq => ?_, HU.out.trans HU2.out (fun q hq hs => ?_), fun q hq hqe => (HE2.out q (by omega) hqe).trans (HEK.out q hq hqe)⟩
          · rcases HS2b.out q hq with h | h
            · exact HS.out q h
            · exact .inr (by omega)
          · rcases HS.out q hs with h | h
            · exact h
            · omega
        case measure => simp [intOf]; omega
    · obtain rfl : k = n := by omega
      rw [List.take_of_length_le (by have := HN.out; omega)] at hl
      have HL := Lib.hid hl; have HS := Lib.hid hS; have HU := Lib.hid hu
      clear hl hS hu hEk
      have hws : w.heap.size ≤ w2.heap.size := HB2.out.size
      have hsr : w3.heap.size ≤ wr.heap.size := HU.out.size
      have hbr : Below w.heap.size w wr := HU.out.below (fun q hq => by
        rcases hq with ⟨h, _⟩ | h
        · omega
        · omega) (HB2.out.trans (HB3.out.mono hws)) (by omega)
      have hSge : ∀ q, S q → w1.heap.size ≤ q := fun q hq => by
        rcases HS.out q hq with (⟨h, _⟩ | h) | h
        · exact h
        · omega
        · omega
      have HBR := Lib.hid hbr; have HSGE := Lib.hid hSge
      clear hbr hSge
      have hb5 := balloc wr (.cells #[.pointer none] 106)
      have hn5 := heap_alloc_new wr (.cells #[.pointer none] 106)
      have HB5 := Lib.hid hb5
      clear hb5
      have hE5 := HE.out.step (HBR.out.trans (HB5.out.mono HBR.out.size))
      have HE5 := Lib.hid hE5
      clear hE5
      rcases HEV.out with ⟨rfl, hz⟩ | ⟨hz, g, rfl, hg⟩
      · have hgood : good = bs.length := by rw [HGOOD.out]; exact HFS.out.2.2.2.1.1 hz
        have HZ := Lib.hid hz; have HG := Lib.hid hgood
        clear hz hgood hn5
        go_wp2_with fail
        refine (as_nil _ _).mono ?_
        rintro e w6 ⟨rfl, rfl⟩
        go_wp2_with fail
        go_ret2
        refine ⟨_, lv, ev', _, S, v, _, rfl, HL.out.keep HB5.out, ?_, fun q hq => by have := HSGE.out q hq; omega, Upd.of_below (HBR.out.trans (HB5.out.mono HBR.out.size)) _, .inl rfl, .inl ⟨rfl, HZ.out⟩, fun q hq hd => by have := HSGE.out q hq; have := HDL.out q hd; omega⟩
        rw [← HGOOD.out, HG.out, List.take_length, Nat.min_eq_left hsyn]
        exact HD.out.keep (HBR.out.trans (HB5.out.mono HBR.out.size))
      · have hgl := heap_lt hg
        have hg5 : (wr.alloc (.cells #[.pointer none] 106)).heap[g]? = some (faultObj (scan bs).2.1 (scan bs).2.2) := by
          rw [heap_alloc_old _ _ (by omega), HU.out.block g (by omega) ?_, HB3.out.block g hgl]
          · exact hg
          · rintro (⟨_, cs, hc⟩ | h)
            · rw [hg] at hc; injection hc with hc; injection hc with _ hc _; exact absurd hc (by decide)
            · omega
        have hc5 : (wr.alloc (.cells #[.pointer none] 106)).cell? ⟨wr.heap.size, 0, none⟩ = some (.pointer none) := (cells1 hn5).1
        have hf5 : (wr.alloc (.cells #[.pointer none] 106)).frozen? ⟨wr.heap.size, 0, none⟩ = false := (cells1 hn5).2
        have HG5 := Lib.hid hg5; have HC5 := Lib.hid hc5; have HF5 := Lib.hid hf5; have HZ := Lib.hid hz; have HN5 := Lib.hid hn5
        clear hg5 hc5 hf5 hg hn5
        go_wp2_with fail
        refine (as_fault_fault g ⟨wr.heap.size, 0, none⟩ (.pointer none) _ HC5.out HF5.out HE5.out).mono ?_
        rintro e w7 ⟨rfl, w6, hb6, hw7⟩
        have hs6 := hb6.size
        have hn6 : w6.heap[wr.heap.size]? = some (.cells #[.pointer none] 106 (0, 0)) := (hb6.block _ (by simp)).trans HN5.out
        have hc7 : w7.cell? ⟨wr.heap.size, 0, none⟩ = some (.pointer (some ⟨g, 0, none⟩)) := by
          rw [← hw7]; simp [World.cell?, heap_set1 hn6]
        have hb7 : Below wr.heap.size wr w7 := by
          rw [← hw7]
          exact (HB5.out.trans (hb6.mono (by simp))).setCell (Nat.le_refl _) _
        have hgl7 : g < wr.heap.size := by omega
        have hcg : w7.cell? ⟨g, 0, none⟩ = some (.int .i64 (good : Int)) := by
          have : w7.heap[g]? = some (faultObj (scan bs).2.1 (scan bs).2.2) := by
            rw [hb7.block g hgl7, ← heap_alloc_old wr (.cells #[.pointer none] 106) hgl7]; exact HG5.out
          rw [HGOOD.out]
          simp [World.cell?, this, faultObj]
        have HB7 := Lib.hid hb7
        clear hw7 hb6 hn6 hb7
        have hd7 := HD.out.keep (HBR.out.trans (HB7.out.mono HBR.out.size))
        have HD7 := Lib.hid hd7
        clear hd7
        go_wp2_with fail
        refine (cut_any B gd s v bs w7 HD7.out good (by rw [HGOOD.out]; exact HFS.out.2.2.1)).mono ?_
        rintro e w8 ⟨rfl, v8, hd8, hu8, ho8⟩
        have HD8 := Lib.hid hd8; have HU8 := Lib.hid hu8; have HO8 := Lib.hid ho8
        clear hd8 hu8 ho8 hc7 hcg
        go_wp2_with fail
        go_ret2
        have hs7 := HB7.out.size
        refine ⟨_, lv, ev', _, S, v8, _, rfl, (HL.out.keep HB7.out).upd HU8.out (fun q hq hd => ?_), ?_, fun q hq => by have := HSGE.out q hq; omega, (Upd.of_below (HBR.out.trans (HB7.out.mono HBR.out.size)) (DiskIn gd v)).trans HU8.out (fun _ _ h => h), ?_, .inr ⟨HZ.out, g, rfl⟩, fun q hq hd => ?_⟩
        · have := HSGE.out q hq; have := HDL.out q hd; omega
        · rw [← HGOOD.out]; exact HD8.out
        · rcases HO8.out with h | h
          · exact .inl h
          · exact .inr fun q hq => by have := h q hq; have := HBR.out.size; omega
        · have hlt := HL.out.lt q hq
          have hge := HSGE.out q hq
          rcases hd with rfl | hd
          · omega
          · rcases HO8.out with h | h
            · have := HDL.out q (.inr (by rw [← h]; exact hd)); omega
            · have := h q hd; omega
end Go.Proofs.YtoophonmonojcaaDoor
