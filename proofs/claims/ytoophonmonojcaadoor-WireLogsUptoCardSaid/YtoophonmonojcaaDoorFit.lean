/- Contracts of jotterlaw03's fit and joined. -/
import Derived.Test.YtoophonmonojcaaDoorFixed
namespace Go.Proofs.YtoophonmonojcaaDoor
open Go.RowKit

def okLen (p : List UInt8) : Bool := decide (0 < p.length) && decide (p.length ≤ 64)
def fits (ps : List (List UInt8)) : List (List UInt8) := ps.filter okLen
theorem fits_fits (ps : List (List UInt8)) : Fits (fits ps) := by
  intro p hp
  have := (List.mem_filter.1 hp).2
  simp [okLen] at this
  omega
theorem fits_length (ps : List (List UInt8)) : (fits ps).length ≤ ps.length := List.length_filter_le _ _
theorem fits_snoc (ps : List (List UInt8)) (k : Nat) (h : k < ps.length) : fits (ps.take (k + 1)) = fits (ps.take k) ++ (if okLen (ps.getD k []) then [ps.getD k []] else []) := by
  unfold fits
  rw [List.take_succ_eq_append_getElem h, List.getD_eq_getElem?_getD, List.getElem?_eq_getElem h, List.filter_append]
  simp only [List.filter_cons, List.filter_nil, Option.getD_some]

theorem Sl.elem {w : World} {v : Value} {p : List UInt8} (h : Sl w v p) (B : Nat) : Elem w w.heap.size B v p := by
  obtain ⟨ao, cap, h1, h2, h3, h4⟩ := h
  refine ⟨ao, cap, h1, h2, h3, h4, fun hp a ha => .inl ?_⟩
  obtain ⟨b, off, e, hc⟩ := h3 0 (List.length_pos_iff.2 hp)
  rw [ha] at e
  cases e
  exact block_lt hc
theorem Elem.after {w w' : World} {L B : Nat} {v : Value} {p : List UInt8} (h : Elem w L B v p) {w0 : World} (hb : Below w.heap.size w0 w') (h0 : w0 = w) : Elem w' L B v p := h.keep (h0 ▸ hb)

/-- What fit answers. -/
def FitPost (w : World) (ps : List (List UInt8)) (e : Ending) (w' : World) : Prop := ∃ v, e = .returned v ∧ OwnRows w' w.heap.size w.heap.size v (fits ps) ∧ Below w.heap.size w w'

set_option maxRecDepth 100000 in
set_option maxHeartbeats 1000000 in
theorem fit_any (ao : Option Addr) (n cap : Nat) (ps : List (List UInt8)) (w : World) (hl : ps.length = n) (hr : RdRows w ao ps) (hb : (n + 1) * 24 ≤ 140737488355328) :
    Calls Tryd.prog 34 #[.slice ao n cap] w (FitPost w ps) := by
  rcases Nat.eq_zero_or_pos n with h0 | h0
  · subst h0
    obtain rfl : ps = [] := List.eq_nil_of_length_eq_zero hl
    clear hr hl
    go_enter Tryd.func34, Tryd.ntmps34
    go_wp2
    refine wp_loop_rounds 1 ?_
    rw [rounds_succ]
    go_wp2
    go_ret
    exact ⟨_, rfl, OwnRows.nil _ _ _, Below.refl _ _⟩
  · obtain ⟨b, off, rfl, hbw, hc⟩ := hr.some (by omega)
    rw [hl] at hc
    have HL := Lib.hid hl; have HC := Lib.hid hc; clear hl hr hc
    go_enter Tryd.func34, Tryd.ntmps34
    go_wp2
    go_loopw [3, 4] (fun v i wr => ∃ (k : Nat), k ≤ n ∧ i = .int .i64 k ∧ OwnRows wr w.heap.size w.heap.size v (fits (ps.take k)) ∧ Below w.heap.size w wr) (fun _ i _ => n - (intOf i).toNat)
    case atStart => exact ⟨0, Nat.zero_le _, rfl, OwnRows.nil _ _ _, Below.refl _ _⟩
    case round =>
      obtain ⟨k, hk, rfl, hown, hbel⟩ := hrel
      have HOWN := Lib.hid hown; have HBEL := Lib.hid hbel; clear hown hbel
      by_cases hlt : k < n
      · obtain ⟨x, hx, hs⟩ := HC.out k hlt
        obtain ⟨hc1, hf1⟩ := bcell HBEL.out
        have hsn := fits_snoc ps k (by have := HL.out; omega)
        have hfl : (fits (ps.take k)).length ≤ k := Nat.le_trans (fits_length _) (List.length_take_le _ _)
        obtain ⟨q, hq⟩ : ∃ q, q = ps.getD k [] := ⟨_, rfl⟩
        rw [← hq] at hs hsn
        have hel := hs.elem w.heap.size
        obtain ⟨ax, cx, rfl, _, _, _⟩ := hs
        obtain ⟨m, hm⟩ : ∃ m, m = q.length := ⟨_, rfl⟩
        rw [← hm] at hx hel
        have HEL := Lib.hid hel; have HSN := Lib.hid hsn; have HM := Lib.hid hm; clear hel hsn hm hq
        by_cases hm0 : 0 < m
        · by_cases hm1 : m ≤ 64
          · have hok : okLen q = true := by have := HM.out; simp [okLen]; omega
            have HOK := Lib.hid hok; clear hok
            go_wp2_with (at_builtin; go_must (with_reducible refine wpList_appendRow rfl (.tmp 25) (.tmp 30) rfl w.heap.size w.heap.size (Nat.le_refl _) u3 (fits (ps.take k)) rfl (HOWN.out.keep ((Below.refl _ wr).alloc (Nat.le_refl _) _)) ⟨wr.heap.size, 0, none⟩ 1 rfl _ q (by simp) ((HEL.out.keep HBEL.out).keep ((Below.refl _ wr).alloc (Nat.le_refl _) _)) (by omega) (by have := HBEL.out.size; simp; omega) ?_); intro v2 w2 ho2 hg2; have HO2 := Lib.hid ho2; have HG2 := Lib.hid hg2; clear ho2 hg2)
            go_roundw
            case rel =>
              have hB := HBEL.out
              refine ⟨k + 1, by omega, by go_num, ?_, ?_⟩
              · have := HSN.out
                rw [HOK.out, if_pos rfl] at this
                rw [this]; exact HO2.out
              · exact (HOWN.out.keep ((Below.refl _ wr).alloc (Nat.le_refl _) (.cells #[.slice ax m cx] 27))).grown (hB.alloc hB.size _) (by have := hB.size; simp; omega) HG2.out
            case measure => simp [intOf]; omega
          · have hok : okLen q = false := by have := HM.out; simp [okLen]; omega
            have HOK := Lib.hid hok; clear hok
            go_wp2_with fail
            go_roundw
            case rel =>
              refine ⟨k + 1, by omega, by go_num, ?_, HBEL.out⟩
              have := HSN.out
              rw [HOK.out, if_neg (by simp), List.append_nil] at this
              rw [this]; exact HOWN.out
            case measure => simp [intOf]; omega
        · have hok : okLen q = false := by have := HM.out; simp [okLen]; omega
          have HOK := Lib.hid hok; clear hok
          go_wp2_with fail
          go_roundw
          case rel =>
            refine ⟨k + 1, by omega, by go_num, ?_, HBEL.out⟩
            have := HSN.out
            rw [HOK.out, if_neg (by simp), List.append_nil] at this
            rw [this]; exact HOWN.out
          case measure => simp [intOf]; omega
      · obtain rfl : k = n := by omega
        go_wp2_with fail
        go_ret
        have h1 := HOWN.out
        rw [List.take_of_length_le (by have := HL.out; omega)] at h1
        exact ⟨_, rfl, h1, HBEL.out⟩

/-- What joined answers of payloads that all may be. -/
def JoinedPost (w : World) (ps : List (List UInt8)) (e : Ending) (w' : World) : Prop := ∃ v, e = .returned (.tuple #[v, .bool true]) ∧ Own w' w.heap.size v (joined ps) ∧ Below w.heap.size w w'
theorem joined_length_le (ps : List (List UInt8)) (h : Fits ps) : (joined ps).length ≤ 72 * ps.length := by
  induction ps with
  | nil => simp [joined_nil]
  | cons p t ih =>
    have := ih (fun q hq => h q (by simp [hq]))
    have := (h p (by simp)).2
    rw [joined_cons, List.length_append, frame_length, List.length_cons]
    omega
theorem joined_take (ps : List (List UInt8)) (k : Nat) (h : k < ps.length) : joined (ps.take (k + 1)) = joined (ps.take k) ++ frame (ps.getD k []) := by
  rw [List.take_succ_eq_append_getElem h, joined_snoc, List.getD_eq_getElem?_getD, List.getElem?_eq_getElem h]; rfl
theorem getD_mem {ps : List (List UInt8)} {k : Nat} (h : k < ps.length) : ps.getD k [] ∈ ps := by
  rw [List.getD_eq_getElem?_getD, List.getElem?_eq_getElem h]; exact List.getElem_mem _

set_option maxRecDepth 100000 in
set_option maxHeartbeats 1000000 in
theorem joined_any (ao : Option Addr) (n cap : Nat) (ps : List (List UInt8)) (w : World) (hl : ps.length = n) (hr : RdRows w ao ps) (hf : Fits ps) (hb : 72 * n ≤ 140737488355328) (ht : Tab w) :
    Calls Tryd.prog 35 #[.slice ao n cap] w (JoinedPost w ps) := by
  rcases Nat.eq_zero_or_pos n with h0 | h0
  · subst h0
    obtain rfl : ps = [] := List.eq_nil_of_length_eq_zero hl
    clear hr hl hf ht
    go_enter Tryd.func35, Tryd.ntmps35
    go_wp2
    refine wp_loop_rounds 1 ?_
    rw [rounds_succ]
    go_wp2
    go_ret2
    exact ⟨_, rfl, Own.nil _ _, Below.refl _ _⟩
  · obtain ⟨b, off, rfl, hbw, hc⟩ := hr.some (by omega)
    rw [hl] at hc
    have HL := Lib.hid hl; have HC := Lib.hid hc; have HF := Lib.hid hf; have HT := Lib.hid ht; clear hl hr hc hf ht
    go_enter Tryd.func35, Tryd.ntmps35
    go_wp2
    go_loopw [4, 5] (fun v i wr => ∃ (k : Nat), k ≤ n ∧ i = .int .i64 k ∧ Own wr w.heap.size v (joined (ps.take k)) ∧ Below w.heap.size w wr) (fun _ i _ => n - (intOf i).toNat)
    case atStart => exact ⟨0, Nat.zero_le _, rfl, Own.nil _ _, Below.refl _ _⟩
    case round =>
      obtain ⟨k, hk, rfl, hown, hbel⟩ := hrel
      have HOWN := Lib.hid hown; have HBEL := Lib.hid hbel; clear hown hbel
      by_cases hlt : k < n
      · obtain ⟨x, hx, hs⟩ := HC.out k hlt
        obtain ⟨hc1, hf1⟩ := bcell HBEL.out
        have hkl : k < ps.length := by have := HL.out; omega
        have hjt := joined_take ps k hkl
        have hfq := HF.out _ (getD_mem hkl)
        have hjl : (joined (ps.take k)).length ≤ 72 * k := by
          refine Nat.le_trans (joined_length_le _ (fun p hp => HF.out p (List.mem_of_mem_take hp))) ?_
          have := List.length_take_le k ps
          omega
        obtain ⟨q, hq⟩ : ∃ q, q = ps.getD k [] := ⟨_, rfl⟩
        rw [← hq] at hs hjt hfq
        have HJT := Lib.hid hjt
        obtain ⟨ax, cx, rfl, hqc, hrd, hnil⟩ := hs
        obtain ⟨m, hm⟩ : ∃ m, m = q.length := ⟨_, rfl⟩
        rw [← hm] at hx hfq hqc
        have HM := Lib.hid hm; have HRD := Lib.hid hrd; have HN := Lib.hid hnil
        obtain ⟨hm1, hm2⟩ := hfq
        clear hjt hkl hm hq hrd hnil
        go_wp2_with fail
        refine (frame_ok ax m cx q _ HM.out.symm (HRD.out.step HBEL.out) hm1 hm2 HN.out (HT.out.step HBEL.out)).mono ?_
        rintro e w1 ⟨g1, rfl, hg1, hr1, hb1⟩
        have HR1 := Lib.hid hr1; have HBEL1 := Lib.hid (HBEL.out.trans (hb1.mono HBEL.out.size)); have HOWN1 := Lib.hid (HOWN.out.keep hb1)
        rw [← HM.out]
        obtain ⟨hc1', hf1'⟩ := bcell HBEL1.out
        clear hr1 hb1 hc1 hf1
        go_wp2_with (at_builtin; go_must (with_reducible refine wpList_appendB rfl (.tmp 35) (.tmp 36) rfl w.heap.size u4 (joined (ps.take k)) (frame q) rfl HOWN1.out _ (m + 8) (m + 8) rfl (fun h => by cases h) (by rw [frame_length, HM.out]) HR1.out.rd (by omega) HBEL1.out.size ?_); intro v2 w2 ho2 hg2; have HO2 := Lib.hid ho2; have HG2 := Lib.hid hg2; clear ho2 hg2)
        go_roundw
        case rel =>
          refine ⟨k + 1, by omega, by go_num, ?_, Own.grown HOWN1.out HBEL1.out HBEL1.out.size HG2.out⟩
          rw [HJT.out]; exact HO2.out
        case measure => simp [intOf]; omega
      · obtain rfl : k = n := by omega
        go_wp2_with fail
        go_ret2
        have h1 := HOWN.out
        rw [List.take_of_length_le (by have := HL.out; omega)] at h1
        exact ⟨_, rfl, h1, HBEL.out⟩
end Go.Proofs.YtoophonmonojcaaDoor
