/- Several texts laid as one, in this order: RefSum, Full, Over. -/
import Derived.Test.YtoophonmonojcaaDoorGCrc
import Derived.Test.YtoophonmonojcaaDoorGOwn
import Derived.Test.YtoophonmonojcaaDoorGEq
import Derived.ArgAppend
/- Contracts of jotterref01: bits, Sum, copied, Seal, Open. -/
namespace Go.Proofs.YtoophonmonojcaaDoor
open Go.RowKit

theorem heap_set1 {w : World} {g : Nat} {cs : Array Value} {t : TypeId} {fr : Nat × Nat} (h : w.heap[g]? = some (.cells cs t fr)) (i : Nat) (x : Value) : (w.setCell ⟨g, i, none⟩ x).heap[g]? = some (.cells (cs.setIfInBounds i x) t fr) := by
  simp [World.setCell, Array.getElem?_modify, h]
theorem Row.set {w : World} {g : Nat} {l : List UInt8} (h : Row w g l) (k : Nat) (x : UInt8) : Row (w.setCell ⟨g, k, none⟩ (.int .u8 (x.toNat : Int))) g (l.set k x) := by
  unfold Row at *
  rw [heap_set1 h]
  congr 1
  congr 1
  simp [List.map_set, bv]
theorem Row.setF {w : World} {g N : Nat} {f f' : Nat → Nat} (h : Row w g (rowF N f)) (k v : Nat) (hv : v ≤ 255) (hf : ∀ j, j < N → f' j = if j = k then v else f j) : Row (w.setCell ⟨g, k, none⟩ (.int .u8 (v : Int))) g (rowF N f') := by
  have h1 := h.set k (UInt8.ofNat v)
  rw [rowF_set, ← rowF_congr hf] at h1
  have e : ((UInt8.ofNat v).toNat : Int) = v := by rw [UInt8.toNat_ofNat']; omega
  rw [e] at h1
  exact h1
theorem Row.cellF {w : World} {g N : Nat} {f : Nat → Nat} (h : Row w g (rowF N f)) (k : Nat) (hk : k < N) (hf : f k ≤ 255) : w.cell? ⟨g, k, none⟩ = some (.int .u8 (f k : Int)) := by
  have := h.cell k (by rw [rowF_len]; exact hk)
  rw [rowF_at N f k hk hf] at this
  exact this
/-- make([]byte, n). -/
theorem wpList_makeB {w : World} {ops : Array Oper} {rest : List Oper} {o : Oper} {a : Act} {Q : Exit → Act → World → Prop} (hgd : o.guard = none) (l c : Operand) (ho : o.op = .makeSlice 27 l c)
    (L C : Int) (n : Nat) (hl : a.eval l = .int .i64 L) (hc : a.eval c = .int .i64 C) (hL : L = (n : Int)) (hC : C = (n : Int)) (hn : n ≤ 281474976710656)
    (h : ∀ w', Row w' w.heap.size (List.replicate n 0) → w.grownBy w' none → wpList Tryd.prog ops Q rest (a.put o.dst (.slice (some ⟨w.heap.size, 0, none⟩) n n)) w') : wpList Tryd.prog ops Q (o :: rest) a w := by
  obtain ⟨i0, hi, hz0, hz1, hz2⟩ := info_parts Tryd.infoU8
  refine wpList_make_full w hgd l c 27 ho w.heap.size 5 i0 (.int .u8 0) 1 Tryd.underlying27 hi hz0 hz1 .i64 .i64 L C n hl hc hL hC (by rw [hz2]; omega) (by unfold maxLen; omega) (Nat.le_refl _) ?_
  intro w' ho1 hg1
  refine h w' ?_ hg1
  obtain ⟨_, h2⟩ := ho1
  rcases h2 with ⟨h2, _⟩ | ⟨g, cap, cur, hv, _, hh, _, _, hs, ht⟩
  · cases h2
  · cases hv
    unfold Row
    rw [hh]
    have e1 : (madeCells (Value.int .u8 0).cells (n * 1)).toList = List.replicate n (.int .u8 0) := by
      rw [Nat.mul_one]; exact toList_madeCells_one _ _
    rw [e1, List.take_of_length_le (by simp; omega)] at ht
    have e2 : cur = ((List.replicate n (0 : UInt8)).map bv).toArray := by
      apply Array.ext'
      rw [ht, List.map_replicate]
      rfl
    rw [e2]
theorem rowF_zero (N : Nat) (f : Nat → Nat) (h : ∀ j, j < N → f j = 0) : List.replicate N 0 = rowF N f := by
  apply List.ext_getElem?
  intro i
  unfold rowF
  rcases Nat.lt_or_ge i N with hi | hi
  · simp [hi, h i hi]
  · simp [hi]

theorem and_bit (a t : Nat) (ha : a < 256) (ht : t < 8) : (bits .and .u8 (a : Int) ((2 : Int) ^ t % 256) != 0) = decide (a / 2 ^ t % 2 = 1) := by
  have h : ∀ t < 8, ∀ a : Nat, a < 256 → (bits .and .u8 (a : Int) ((2 : Int) ^ t % 256) != 0) = decide (a / 2 ^ t % 2 = 1) := by decide +kernel
  exact h t ht a ha
theorem drewN_size (w : World) (n : Nat) : (w.drewN n).heap.size = w.heap.size := rfl

set_option maxRecDepth 100000 in
set_option maxHeartbeats 1000000 in
theorem bits_any (ao : Option Addr) (n cap : Nat) (l : List UInt8) (w : World) (hl : l.length = n) (hr : Rd w ao l) (hb : n ≤ 1000) :
    Calls Tryd.prog 136 #[.slice ao n cap] w (NewRow w (rowF (8 * n + 32) (valAt l 0))) := by
  have HL := Lib.hid hl; have HR := Lib.hid hr
  clear hl hr
  go_enter Tryd.func136, Tryd.ntmps136
  go_wp2_with (at_make; refine wpList_makeB rfl _ _ rfl _ _ (8 * n + 32) rfl rfl (by omega) (by omega) (by omega) ?_; intro w1 hrow hg1)
  have hb1 : Below w.heap.size w w1 := (Below.refl _ w).grown hg1 (Nat.le_refl _) (fun k hk => by cases hk)
  have hs1 : w.heap.size < w1.heap.size := hrow.lt
  rw [rowF_zero (8 * n + 32) (bitF l (8 * 0)) (fun j _ => by simp [bitF])] at hrow
  have HB1 := Lib.hid hb1; have HROW := Lib.hid hrow
  clear hb1 hrow hg1
  go_loopw [4] (fun i wr => ∃ k : Nat, k ≤ n ∧ i = .int .i64 k ∧ Row wr w.heap.size (rowF (8 * n + 32) (bitF l (8 * k))) ∧ Below w.heap.size w wr) (fun i _ => n - (intOf i).toNat)
  case atStart => exact ⟨0, Nat.zero_le _, rfl, HROW.out, HB1.out⟩
  case round =>
    obtain ⟨k, hk, rfl, hrow, hbel⟩ := hrel
    have HROW := Lib.hid hrow; have HBEL := Lib.hid hbel
    clear hrow hbel
    by_cases hlt : k < n
    · obtain ⟨b, off, rfl, hbw, hc⟩ := HR.out.some (by have := HL.out; omega)
      have hck := hc k (by have := HL.out; omega)
      obtain ⟨q, hq⟩ : ∃ q, q = l.getD k 0 := ⟨_, rfl⟩
      rw [← hq] at hck
      have HQ := Lib.hid hq
      clear hc hq
      go_wp2_with fail
      obtain ⟨wo, rfl⟩ : ∃ wo : World, wo = wr := ⟨_, rfl⟩
      go_loopw [5] (fun j wr => ∃ t : Nat, t ≤ 8 ∧ j = .int .i64 t ∧ Row wr w.heap.size (rowF (8 * n + 32) (bitF l (8 * k + t))) ∧ Below w.heap.size w wr) (fun i _ => 8 - (intOf i).toNat)
      case atStart => exact ⟨0, Nat.zero_le _, rfl, HROW.out, HBEL.out⟩
      case round =>
        obtain ⟨t, ht, rfl, hrow, hbel⟩ := hrel
        have HROW2 := Lib.hid hrow; have HBEL2 := Lib.hid hbel
        have hck2 := (hbel.cell (p := ⟨b, off + k, none⟩) hbw).trans hck
        clear hrow hbel
        by_cases hlt2 : t < 8
        · have hfz : wr.frozen? ⟨w.heap.size, 8 * k + t, none⟩ = false := HROW2.out.frozen _ _
          have hcl := HROW2.out.cellF (8 * k + t) (by omega) (by have := bitF_le l (8 * k + t) (8 * k + t); omega)
          have htest := and_bit q.toNat t q.toNat_lt hlt2
          have hmb : mbit l (8 * k + t) = q.toNat / 2 ^ t % 2 := by
            rw [HQ.out]; unfold mbit
            rw [show (8 * k + t) / 8 = k by omega, show (8 * k + t) % 8 = t by omega]
          have HMB := Lib.hid hmb
          clear hmb
          by_cases hbit : q.toNat / 2 ^ t % 2 = 1
          · rw [decide_eq_true hbit] at htest
            have HBIT := Lib.hid hbit
            clear hbit
            go_wp2_with fail
            go_quiet (fail)
            go_wp2_with fail
            go_roundw
            case rel =>
              refine ⟨t + 1, by omega, by go_num, ?_, ?_⟩
              · exact Row.setF (w := wr.drewN _) HROW2.out (8 * k + t) 1 (by decide) (fun j _ => bitF_on l (8 * k + t) j (HMB.out.trans HBIT.out))
              · exact (below_drewN HBEL2.out _).setCell (Nat.le_refl _) _
            case measure => simp [intOf]; omega
          · rw [decide_eq_false hbit] at htest
            have HBIT := Lib.hid hbit
            clear hbit
            go_wp2_with fail
            go_quiet (fail)
            go_wp2_with fail
            go_roundw
            case rel =>
              refine ⟨t + 1, by omega, by go_num, ?_, below_drewN HBEL2.out _⟩
              have h0 : mbit l (8 * k + t) = 0 := by have := HMB.out; have := HBIT.out; omega
              have e := rowF_congr (N := 8 * n + 32) (fun j _ => bitF_off l (8 * k + t) j h0)
              show Row wr _ _
              rw [show 8 * k + (t + 1) = 8 * k + t + 1 from rfl, e]
              exact HROW2.out
            case measure => simp [intOf]; omega
        · obtain rfl : t = 8 := by omega
          go_wp2_with fail
          go_roundw
          case rel => exact ⟨k + 1, by omega, by go_num, HROW2.out, HBEL2.out⟩
          case measure => simp [intOf]; omega
    · obtain rfl : k = n := by omega
      have hrow2 := HROW.out
      rw [← HL.out, rowF_congr (fun j _ => bitF_full l j), HL.out] at hrow2
      have HROW3 := Lib.hid hrow2
      clear hrow2
      go_wp2_with fail
      obtain ⟨wo, rfl⟩ : ∃ wo : World, wo = wr := ⟨_, rfl⟩
      go_loopw [6] (fun j wr => ∃ t : Nat, t ≤ 32 ∧ j = .int .i64 t ∧ Row wr w.heap.size (rowF (8 * k + 32) (turnF l t)) ∧ Below w.heap.size w wr) (fun i _ => 32 - (intOf i).toNat)
      case atStart => exact ⟨0, Nat.zero_le _, rfl, HROW3.out, HBEL.out⟩
      case round =>
        obtain ⟨t, ht, rfl, hrow, hbel⟩ := hrel
        have HROW2 := Lib.hid hrow; have HBEL2 := Lib.hid hbel
        clear hrow hbel
        by_cases hlt2 : t < 32
        · have hfz : wr.frozen? ⟨w.heap.size, t, none⟩ = false := HROW2.out.frozen _ _
          have hle := turnF_le l t t
          have hcl := HROW2.out.cellF t (by omega) (by omega)
          obtain ⟨v, hv⟩ : ∃ v, v = turnF l t t := ⟨_, rfl⟩
          rw [← hv] at hcl hle
          have HV := Lib.hid hv
          clear hv
          go_wp2_with fail
          go_roundw
          case rel =>
            refine ⟨t + 1, by omega, by go_num, ?_, HBEL2.out.setCell (Nat.le_refl _) _⟩
            have e : (1 : Int) - (v : Int) = ((1 - v : Nat) : Int) := by omega
            rw [e]
            exact HROW2.out.setF t (1 - v) (by omega) (fun j _ => by rw [HV.out]; exact turnF_step l t j)
          case measure => simp [intOf]; omega
        · obtain rfl : t = 32 := by omega
          go_wp2_with fail
          go_ret
          refine ⟨w.heap.size, ?_, Nat.le_refl _, ?_, HBEL2.out⟩
          · rw [rowF_len]; rfl
          · have h := HROW2.out
            rw [rowF_congr (fun j _ => turnF_full l j)] at h
            exact h

theorem sum_add (x t y : Nat) (h : y = x + 2 ^ t) (hy : y < 4294967296) : ((x : Int) + (2 : Int) ^ t % 4294967296) % 4294967296 = (y : Int) := by
  have e : (2 : Int) ^ t = ((2 ^ t : Nat) : Int) := by rw [Int.natCast_pow]; rfl
  rw [e]
  generalize 2 ^ t = p at *
  omega
theorem poly_test (t : Nat) (h : t < 33) : (((({ data := #[49, 48, 48, 48, 48, 48, 49, 48, 48, 49, 49, 48, 48, 48, 48, 48, 49, 48, 48, 48, 49, 49, 49, 48, 49, 49, 48, 49, 49, 48, 49, 49, 49] } : ByteArray)[t]'h).toNat : Int) == 49) = decide (polyL.getD t 0 = 1) := by
  have hc : ∀ t : Fin 33, (((({ data := #[49, 48, 48, 48, 48, 48, 49, 48, 48, 49, 49, 48, 48, 48, 48, 48, 49, 48, 48, 48, 49, 49, 49, 48, 49, 49, 48, 49, 49, 48, 49, 49, 49] } : ByteArray)[t.val]'t.isLt).toNat : Int) == 49) = decide (polyL.getD t.val 0 = 1) := by decide +kernel
  exact hc ⟨t, h⟩

set_option maxRecDepth 100000 in
set_option maxHeartbeats 2000000 in
theorem refSum_any (ao : Option Addr) (n cap : Nat) (l : List UInt8) (w : World) (hl : l.length = n) (hr : Rd w ao l) (hb : n ≤ 1000) :
    Calls Tryd.prog 122 #[.slice ao n cap] w (RetV w (.int .u32 (sum l : Nat))) := by
  have HL := Lib.hid hl; have HR := Lib.hid hr
  clear hl hr
  go_enter Tryd.func122, Tryd.ntmps122
  go_wp2_with fail
  refine (bits_any ao n cap l _ HL.out HR.out hb).mono ?_
  rintro e w1 ⟨g, rfl, hg, hrow, hb1⟩
  have HROW := Lib.hid hrow; have HB1 := Lib.hid hb1
  have hgl := hrow.lt
  rw [rowF_len]
  clear hrow hb1
  go_wp2_with fail
  go_loopw [4] (fun i wr => ∃ k : Nat, k ≤ 8 * n ∧ i = .int .i64 k ∧ Row wr g (rowF (8 * n + 32) (valAt l k)) ∧ Below w.heap.size w wr) (fun i _ => 8 * n - (intOf i).toNat)
  case atStart => exact ⟨0, Nat.zero_le _, rfl, HROW.out, HB1.out⟩
  case round =>
    obtain ⟨k, hk, rfl, hrow, hbel⟩ := hrel
    have HROW := Lib.hid hrow; have HBEL := Lib.hid hbel
    clear hrow hbel
    by_cases hlt : k < 8 * n
    · have hle := valAt_le l k k
      have hcl := HROW.out.cellF k (by omega) (by omega)
      by_cases hv : valAt l k k = 1
      · have HV := Lib.hid hv
        rw [hv] at hcl
        clear hv hle
        go_wp2_with fail
        obtain ⟨wo, rfl⟩ : ∃ wo : World, wo = wr := ⟨_, rfl⟩
        go_loopw [5] (fun j wr => ∃ t : Nat, t ≤ 33 ∧ j = .int .i64 t ∧ Row wr g (rowF (8 * n + 32) (overF l k t)) ∧ Below w.heap.size w wr) (fun i _ => 33 - (intOf i).toNat)
        case atStart =>
          have h := HROW.out
          rw [rowF_congr (fun j _ => (overF_zero l k j).symm)] at h
          exact ⟨0, Nat.zero_le _, rfl, h, HBEL.out⟩
        case round =>
          obtain ⟨t, ht, rfl, hrow, hbel⟩ := hrel
          have HROW2 := Lib.hid hrow; have HBEL2 := Lib.hid hbel
          clear hrow hbel
          by_cases hlt2 : t < 33
          · have htest := poly_test t hlt2
            have hpl := poly_le t
            have hfz : wr.frozen? ⟨g, k + t, none⟩ = false := HROW2.out.frozen _ _
            have hle := overF_le l k t (k + t)
            have hcl := HROW2.out.cellF (k + t) (by omega) (by omega)
            obtain ⟨v, hv⟩ : ∃ v, v = overF l k t (k + t) := ⟨_, rfl⟩
            rw [← hv] at hcl hle
            have HVV := Lib.hid hv
            clear hv
            by_cases hp : polyL.getD t 0 = 1
            · rw [decide_eq_true hp] at htest
              have HP := Lib.hid hp
              clear hp hpl
              go_wp2_with fail
              go_roundw
              case rel =>
                refine ⟨t + 1, by omega, by go_num, ?_, HBEL2.out.setCell hg _⟩
                have e : (1 : Int) - (v : Int) = ((1 - v : Nat) : Int) := by omega
                rw [e]
                exact HROW2.out.setF (k + t) (1 - v) (by omega) (fun j _ => by rw [HVV.out]; exact overF_on l k t j HP.out)
              case measure => simp [intOf]; omega
            · rw [decide_eq_false hp] at htest
              have HP := Lib.hid (show polyL.getD t 0 = 0 by omega)
              clear hp hpl
              go_wp2_with fail
              go_roundw
              case rel =>
                refine ⟨t + 1, by omega, by go_num, ?_, HBEL2.out⟩
                rw [rowF_congr (fun j _ => overF_off l k t j HP.out)]
                exact HROW2.out
              case measure => simp [intOf]; omega
          · obtain rfl : t = 33 := by omega
            have h := HROW2.out
            rw [rowF_congr (fun j _ => overF_full l k j HV.out)] at h
            have HROW3 := Lib.hid h
            clear h
            go_wp2_with fail
            go_roundw
            case rel => exact ⟨k + 1, by omega, by go_num, HROW3.out, HBEL2.out⟩
            case measure => simp [intOf]; omega
      · have hv0 : valAt l k k = 0 := by omega
        have HV := Lib.hid hv0
        rw [hv0] at hcl
        clear hv hle hv0
        go_wp2_with fail
        go_roundw
        case rel =>
          refine ⟨k + 1, by omega, by go_num, ?_, HBEL.out⟩
          rw [rowF_congr (fun j _ => val_same l k j HV.out)]
          exact HROW.out
        case measure => simp [intOf]; omega
    · obtain rfl : k = 8 * n := by omega
      go_wp2_with fail
      obtain ⟨wo, rfl⟩ : ∃ wo : World, wo = wr := ⟨_, rfl⟩
      go_loopw [6, 7] (fun s j wr => ∃ t : Nat, t ≤ 32 ∧ j = .int .i64 t ∧ s = .int .u32 (lowPart l t : Nat) ∧ wr = wo) (fun _ i _ => 32 - (intOf i).toNat)
      case atStart => exact ⟨0, Nat.zero_le _, rfl, by rw [low_zero]; rfl, rfl⟩
      case round =>
        obtain ⟨t, ht, rfl, rfl, rfl⟩ := hrel
        have hlw := low_lt l t ht
        by_cases hlt2 : t < 32
        · have hst := low_step l t hlt2
          have hlw2 := low_lt l (t + 1) (by omega)
          have hle := valAt_le l (8 * n) (8 * n + t)
          have hcl := HROW.out.cellF (8 * n + t) (by omega) (by omega)
          rw [HL.out] at hst
          obtain ⟨v, hv⟩ : ∃ v, v = valAt l (8 * n) (8 * n + t) := ⟨_, rfl⟩
          obtain ⟨x, hx⟩ : ∃ x, x = lowPart l t := ⟨_, rfl⟩
          obtain ⟨y, hy⟩ : ∃ y, y = lowPart l (t + 1) := ⟨_, rfl⟩
          rw [← hv] at hcl hst hle
          rw [← hx] at hlw hst ⊢
          rw [← hy] at hlw2 hst
          have HY := Lib.hid hy
          clear hv hx hy
          by_cases h0 : v = 0
          · subst h0
            rw [if_pos rfl] at hst
            have HST := Lib.hid hst
            clear hst
            go_wp2_with fail
            go_roundw
            case rel =>
              refine ⟨t + 1, by omega, by go_num, ?_, by trivial⟩
              rw [← HY.out, sum_add x t y HST.out hlw2]
            case measure => simp [intOf]; omega
          · obtain rfl : v = 1 := by omega
            rw [if_neg (by omega)] at hst
            have HST := Lib.hid hst
            clear hst
            go_wp2_with fail
            go_roundw
            case rel => exact ⟨t + 1, by omega, by go_num, by rw [← HY.out, HST.out]; go_num, by trivial⟩
            case measure => simp [intOf]; omega
        · obtain rfl : t = 32 := by omega
          go_wp2_with fail
          go_ret
          exact ⟨by rw [low_end]; rfl, HBEL.out⟩

/-- Copied so far. -/
def part (l : List UInt8) (k : Nat) : List UInt8 := l.take k ++ List.replicate (l.length - k) 0
theorem part_set (l : List UInt8) (k : Nat) (h : k < l.length) : (part l k).set k (l.getD k 0) = part l (k + 1) := by
  unfold part
  have e : List.replicate (l.length - k) (0 : UInt8) = 0 :: List.replicate (l.length - (k + 1)) 0 := by
    rw [show l.length - k = (l.length - (k + 1)) + 1 by omega, List.replicate_succ]
  rw [e, List.set_append_right _ _ (by simp [Nat.min_le_left]), take_snoc l k h]
  have : k - (l.take k).length = 0 := by simp; omega
  rw [this]
  simp
theorem part_zero (l : List UInt8) : part l 0 = List.replicate l.length 0 := by simp [part]
theorem part_all (l : List UInt8) : part l l.length = l := by simp [part]
set_option maxRecDepth 100000 in
set_option maxHeartbeats 1000000 in
theorem copied_any (ao : Option Addr) (n cap : Nat) (l : List UInt8) (w : World) (hl : l.length = n) (hr : Rd w ao l) (hb : n ≤ 140737488355328) :
    Calls Tryd.prog 121 #[.slice ao n cap] w (NewRow w l) := by
  have HL := Lib.hid hl; have HR := Lib.hid hr
  clear hl hr
  go_enter Tryd.func121, Tryd.ntmps121
  go_wp2_with (at_make; refine wpList_makeB rfl _ _ rfl _ _ n rfl rfl (by omega) (by omega) (by omega) ?_; intro w1 hrow hg1)
  have hb1 : Below w.heap.size w w1 := (Below.refl _ w).grown hg1 (Nat.le_refl _) (fun k hk => by cases hk)
  have hs1 : w.heap.size < w1.heap.size := hrow.lt
  rw [← HL.out, ← part_zero] at hrow
  have HB1 := Lib.hid hb1; have HROW := Lib.hid hrow
  clear hb1 hrow hg1
  go_loopw [4] (fun i wr => ∃ k : Nat, k ≤ n ∧ i = .int .i64 k ∧ Row wr w.heap.size (part l k) ∧ Below w.heap.size w wr) (fun i _ => n - (intOf i).toNat)
  case atStart => exact ⟨0, Nat.zero_le _, rfl, HROW.out, HB1.out⟩
  case round =>
    obtain ⟨k, hk, rfl, hrow, hbel⟩ := hrel
    have HROW := Lib.hid hrow; have HBEL := Lib.hid hbel
    clear hrow hbel
    by_cases hlt : k < n
    · obtain ⟨b, off, rfl, hbw, hc⟩ := HR.out.some (by have := HL.out; omega)
      have hck := (HBEL.out.cell (p := ⟨b, off + k, none⟩) hbw).trans (hc k (by have := HL.out; omega))
      have hfz : wr.frozen? ⟨w.heap.size, k, none⟩ = false := HROW.out.frozen _ _
      have hcl := HROW.out.cell k (by have := HL.out; simp [part]; omega)
      obtain ⟨q, hq⟩ : ∃ q, q = l.getD k 0 := ⟨_, rfl⟩
      rw [← hq] at hck
      have HQ := Lib.hid hq
      clear hc hq
      go_wp2_with fail
      go_roundw
      case rel =>
        refine ⟨k + 1, by omega, by go_num, ?_, HBEL.out.setCell (Nat.le_refl _) _⟩
        have h := HROW.out.set k q
        rw [HQ.out, part_set l k (by have := HL.out; omega), ← HQ.out] at h
        exact h
      case measure => simp [intOf]; omega
    · obtain rfl : k = n := by omega
      go_wp2_with fail
      go_ret
      refine ⟨w.heap.size, by rw [HL.out]; rfl, Nat.le_refl _, ?_, HBEL.out⟩
      have h := HROW.out
      rw [← HL.out, part_all] at h
      exact h

/-- What a call answers that hands back bytes of its own. -/
def OwnPost (w : World) (l : List UInt8) (e : Ending) (w' : World) : Prop := ∃ v, e = .returned v ∧ Own w' w.heap.size v l ∧ Below w.heap.size w w'
theorem le4_snoc (s t : Nat) (ht : t < 4) : (le4 s).take (t + 1) = (le4 s).take t ++ [u8 ((s / 256 ^ t : Nat) : Int)] := by
  match t, ht with
  | 0, _ => simp [le4]
  | 1, _ => simp [le4]
  | 2, _ => simp [le4]
  | 3, _ => simp [le4]
set_option maxRecDepth 100000 in
set_option maxHeartbeats 2000000 in
theorem refSeal_any (ao : Option Addr) (n cap : Nat) (l : List UInt8) (w : World) (hl : l.length = n) (hr : Rd w ao l) (hb : n ≤ 1000) :
    Calls Tryd.prog 84 #[.slice ao n cap] w (OwnPost w (sealed l)) := by
  have HL := Lib.hid hl; have HR := Lib.hid hr
  clear hl hr
  go_enter Tryd.func84, Tryd.ntmps84
  go_wp2_with fail
  refine (copied_any ao n cap l _ HL.out HR.out (by omega)).mono ?_
  rintro e w1 ⟨g, rfl, hg, hrow, hb1⟩
  have ho1 := hrow.own hg (by have := HL.out; unfold maxLen; omega)
  have HO1 := Lib.hid ho1; have HB1 := Lib.hid hb1
  rw [HL.out] at HO1 ⊢
  clear hrow hb1 ho1
  go_wp2_with fail
  refine (refSum_any ao n cap l _ HL.out (HR.out.step HB1.out) (by omega)).mono ?_
  rintro e w2 ⟨rfl, hb2⟩
  have HB2 := Lib.hid (HB1.out.trans (hb2.mono HB1.out.size)); have HO2 := Lib.hid (HO1.out.keep hb2)
  have hs := sum_lt l
  obtain ⟨s, hs0⟩ : ∃ s, s = sum l := ⟨_, rfl⟩
  rw [← hs0] at hs ⊢
  have HS := Lib.hid hs0
  clear hs0 hb2
  go_wp2_with fail
  go_loopw [3, 4, 5] (fun v x i wr => ∃ (t : Nat), t ≤ 4 ∧ i = .int .i64 t ∧ x = .int .u32 (s / 256 ^ t : Nat) ∧ Own wr w.heap.size v (l ++ (le4 s).take t) ∧ Below w.heap.size w wr) (fun _ _ i _ => 4 - (intOf i).toNat)
  case atStart => exact ⟨0, by omega, rfl, by simp, by simpa using HO2.out, HB2.out⟩
  case round =>
    obtain ⟨t, ht, rfl, rfl, hown, hbel⟩ := hrel
    have HOWN := Lib.hid hown; have HBEL := Lib.hid hbel
    have hsz := hbel.size
    clear hown hbel
    by_cases hlt : t < 4
    · have hle := le4_snoc s t hlt
      have hx2 : s / 256 ^ (t + 1) = s / 256 ^ t / 256 := by rw [Nat.pow_succ, Nat.div_div_eq_div_mul]
      have hxl : s / 256 ^ t ≤ s := Nat.div_le_self _ _
      obtain ⟨x, hx⟩ : ∃ x, x = s / 256 ^ t := ⟨_, rfl⟩
      rw [← hx] at hle hxl hx2 ⊢
      have HLE := Lib.hid hle; have HX2 := Lib.hid hx2
      have hpl : ((le4 s).take t).length ≤ 4 := by simp [le4]; omega
      obtain ⟨p, hp⟩ : ∃ p, p = l ++ (le4 s).take t := ⟨_, rfl⟩
      have hpn : p.length ≤ n + 4 := by rw [hp, List.length_append, HL.out]; omega
      rw [← hp] at HOWN
      have HP := Lib.hid hp
      clear hle hx2 hx hpl hp
      have HB3 := Lib.hid ((Below.refl wr.heap.size wr).alloc (Nat.le_refl _) (.cells #[Value.int IntKind.u8 ((x : Int) % 256)] 5))
      go_wp2_with (at_builtin; go_must (with_reducible refine wpList_appendB rfl (.tmp 14) (.tmp 18) rfl w.heap.size u3 p [u8 (x : Int)] rfl (HOWN.out.keep HB3.out) (some ⟨wr.heap.size, 0, none⟩) 1 1 rfl (fun h => by cases h) rfl (row_new wr _ [u8 (x : Int)] (by simp [bv_u8])).rd (by omega) (by simp; omega) ?_); intro v' w' ho' hg'; have HO' := Lib.hid ho'; have HB' := Lib.hid (Own.grown (HOWN.out.keep HB3.out) (HBEL.out.alloc hsz (.cells #[Value.int IntKind.u8 ((x : Int) % 256)] 5)) (by simp; omega) hg'); clear ho' hg')
      go_roundw
      case rel =>
        refine ⟨t + 1, by omega, by go_num, ?_, ?_, HB'.out⟩
        · rw [HX2.out]; congr 1
        · rw [HLE.out, ← List.append_assoc, ← HP.out]; exact HO'.out
      case measure => simp [intOf]; omega
    · obtain rfl : t = 4 := by omega
      go_wp2_with fail
      go_ret
      refine ⟨_, rfl, ?_, HBEL.out⟩
      have h := HOWN.out
      rw [List.take_of_length_le (by simp [le4]), HS.out] at h
      exact h

theorem byte_ne (a b : UInt8) : ((a.toNat : Int) != (b.toNat : Int)) = !(a == b) := by
  by_cases h : a = b
  · rw [h, bne_self_eq_false, beq_self_eq_true]; rfl
  · have h1 : ¬ (a.toNat : Int) = (b.toNat : Int) := fun e => h (UInt8.toNat_inj.1 (by omega))
    rw [bne_iff_ne.2 h1, beq_eq_false_iff_ne.2 h]; rfl
/-- What jotterref01.Open answers of four bytes or more. -/
def RefOpened (w : World) (l : List UInt8) (e : Ending) (w' : World) : Prop :=
  (l.drop (l.length - 4) = le4 (sum (l.take (l.length - 4))) ∧ ∃ g cap, e = .returned (.tuple #[.slice (some ⟨g, 0, none⟩) (l.length - 4 : Nat) cap, .int .i64 0, .int .i64 (-1)]) ∧ Rd w' (some ⟨g, 0, none⟩) (l.take (l.length - 4)) ∧ l.length - 4 ≤ cap ∧ Below w.heap.size w w') ∨
  (l.drop (l.length - 4) ≠ le4 (sum (l.take (l.length - 4))) ∧ e = .returned (.tuple #[.slice none 0 0, .int .i64 11, .int .i64 (l.length - 4 : Nat)]) ∧ Below w.heap.size w w')
theorem sealed_at (l : List UInt8) (i : Nat) : (sealed l).getD (l.length + i) 0 = (le4 (sum l)).getD i 0 := by
  unfold sealed
  simp [List.getD_eq_getElem?_getD, List.getElem?_append_right]
set_option maxRecDepth 100000 in
set_option maxHeartbeats 2000000 in
theorem refOpen_any (ao : Option Addr) (n cap : Nat) (l : List UInt8) (w : World) (hl : l.length = n) (hr : Rd w ao l) (h4 : 4 ≤ n) (hcap : n ≤ cap) (hb : n ≤ 1000) :
    Calls Tryd.prog 105 #[.slice ao n cap] w (RefOpened w l) := by
  obtain ⟨k, rfl⟩ : ∃ k, n = k + 4 := ⟨n - 4, by omega⟩
  clear h4
  obtain ⟨b, off, rfl, hbw, hc⟩ := hr.some (by omega)
  have hcell : ∀ i, i < 4 → w.cell? ⟨b, off + (k + i), none⟩ = some (.int .u8 ((l.getD (k + i) 0).toNat : Int)) := fun i hi => hc (k + i) (by omega)
  have hrk : Rd w (some ⟨b, off, none⟩) (l.take k) := hr.take k
  have HL := Lib.hid hl; have HR := Lib.hid hrk; have HC := Lib.hid hcell
  clear hl hr hc hrk hcell
  go_enter Tryd.func105, Tryd.ntmps105
  go_wp2_with fail
  refine (refSeal_any _ k cap (l.take k) _ (by have := HL.out; simp; omega) HR.out (by omega)).mono ?_
  rintro e w1 ⟨v, rfl, hown, hb1⟩
  obtain ⟨ao1, cap1, rfl, hc1, _, hrd1, _, hn1, hg1⟩ := hown.shape
  have htl : (l.take k).length = k := by have := HL.out; simp; omega
  have hsl : (sealed (l.take k)).length = k + 4 := by simp [sealed, le4, htl]
  obtain ⟨g, rfl⟩ : ∃ g, ao1 = some ⟨g, 0, none⟩ := by
    cases ao1 with
    | none => have := hn1 rfl; rw [this] at hsl; simp at hsl
    | some a => obtain ⟨g, rfl⟩ := hg1 a rfl; exact ⟨g, rfl⟩
  rw [hsl] at hc1 ⊢
  obtain ⟨s, hs0⟩ : ∃ s, s = sum (l.take k) := ⟨_, rfl⟩
  have hgc : ∀ i, i < 4 → w1.cell? ⟨g, k + i, none⟩ = some (.int .u8 (((le4 s).getD i 0).toNat : Int)) := by
    intro i hi
    obtain ⟨b', off', e', hc'⟩ := hrd1 (k + i) (by omega)
    cases e'
    rw [Nat.zero_add] at hc'
    rw [hc', hs0]
    have := sealed_at (l.take k) i
    rw [htl] at this
    rw [this]
  have hrk1 : Rd w1 (some ⟨g, 0, none⟩) (l.take k) := by
    have := hrd1.take k
    unfold sealed at this
    rw [List.take_append_of_le_length (by omega), List.take_of_length_le (by omega)] at this
    exact this
  have HG := Lib.hid hgc; have HB1 := Lib.hid hb1; have HS := Lib.hid hs0; have HRK := Lib.hid hrk1; have HTL := Lib.hid htl
  clear hgc hb1 hs0 hrk1 htl hsl hrd1 hn1 hg1 hown
  go_wp2_with fail
  go_loopw [7] (fun v wr => ∃ j nq : Nat, j ≤ 4 ∧ v = .int .i64 j ∧ wr = w1.drewN nq ∧ Hid (∀ i, i < j → l.getD (k + i) 0 = (le4 s).getD i 0)) (fun v _ => 4 - (intOf v).toNat)
  case atStart => exact ⟨0, 0, by omega, rfl, rfl, fun i hi => by omega⟩
  case round =>
    obtain ⟨j, nq, hj, rfl, rfl, hm⟩ := hrel
    by_cases hlt : j < 4
    · have hcc := (HB1.out.cell (p := ⟨b, off + (k + j), none⟩) hbw).trans (HC.out j hlt)
      have hgg := HG.out j hlt
      have ht := byte_ne ((le4 s).getD j 0) (l.getD (k + j) 0)
      obtain ⟨x, hx⟩ : ∃ x, x = (le4 s).getD j 0 := ⟨_, rfl⟩
      obtain ⟨y, hy⟩ : ∃ y, y = l.getD (k + j) 0 := ⟨_, rfl⟩
      rw [← hx] at hgg ht
      rw [← hy] at hcc ht
      have HX := Lib.hid hx; have HY := Lib.hid hy
      clear hx hy
      by_cases heq : y = x
      · have ht2 : ((x.toNat : Int) != (y.toNat : Int)) = false := by rw [ht]; simp [heq]
        have HEQ := Lib.hid heq
        clear heq ht
        go_wp2_with fail
        go_quiet (fail)
        go_wp2_with fail
        go_roundw
        case rel =>
          refine ⟨j + 1, _, by omega, by go_num, rfl, ?_⟩
          intro i hi
          rcases Nat.lt_or_ge i j with h | h
          · exact hm.out i h
          · obtain rfl : i = j := by omega
            rw [← HY.out, ← HX.out]; exact HEQ.out
        case measure => simp [intOf]; omega
      · have ht2 : ((x.toNat : Int) != (y.toNat : Int)) = true := by rw [ht]; simp [Ne.symm heq]
        have HNE := Lib.hid heq
        clear heq ht
        go_wp2_with fail
        go_quiet (fail)
        go_wp2_with fail
        go_ret3
        have hl := HL.out
        have e4 : l.length - 4 = k := by omega
        refine .inr ⟨?_, ?_, below_drewN (below_drewN HB1.out _) _⟩
        · rw [e4, ← HS.out]
          intro h
          have := (drop_eq_le4 l k s hl).1 h j hlt
          rw [← HX.out, ← HY.out] at this
          exact HNE.out this
        · rw [e4]; rfl
    · obtain rfl : j = 4 := by omega
      go_wp2_with fail
      go_ret3
      have e4 : l.length - 4 = k := by have := HL.out; omega
      refine .inl ⟨?_, g, cap1, ?_, ?_, by omega, below_drewN HB1.out _⟩
      · rw [e4, ← HS.out]
        exact (drop_eq_le4 l k s HL.out).2 hm.out
      · rw [e4]; rfl
      · rw [e4]; exact HRK.out
end Go.Proofs.YtoophonmonojcaaDoor

/- Slices of bytes that fill their row (no room behind them): written over, appended to; a copy with room behind it. -/
namespace Go.Proofs.YtoophonmonojcaaDoor
open Go.RowKit

/-- The slice at 'ao' of n bytes fills a row from block B on (or is nil). -/
def Full (w : World) (B : Nat) (ao : Option Addr) (n : Nat) (l : List UInt8) : Prop :=
  l.length = n ∧ ((ao = none ∧ n = 0) ∨ ∃ g, ao = some ⟨g, 0, none⟩ ∧ 0 < n ∧ B ≤ g ∧ Row w g l)
theorem Full.nil (w : World) (B : Nat) : Full w B none 0 [] := ⟨rfl, .inl ⟨rfl, rfl⟩⟩
theorem Row.full {w : World} {g B n : Nat} {l : List UInt8} (h : Row w g l) (hB : B ≤ g) (hn : l.length = n) (h0 : 0 < n) : Full w B (some ⟨g, 0, none⟩) n l := ⟨hn, .inr ⟨g, rfl, h0, hB, h⟩⟩
theorem Full.rd {w : World} {B n : Nat} {ao : Option Addr} {l : List UInt8} (h : Full w B ao n l) : Rd w ao l := by
  obtain ⟨hl, ⟨rfl, rfl⟩ | ⟨g, rfl, _, _, hr⟩⟩ := h
  · rw [List.eq_nil_of_length_eq_zero hl]; exact Rd.nil _ _
  · exact hr.rd
theorem Full.none {w : World} {B n : Nat} {ao : Option Addr} {l : List UInt8} (h : Full w B ao n l) : ao = none → n = 0 := by
  obtain ⟨hl, ⟨rfl, rfl⟩ | ⟨g, rfl, _, _, hr⟩⟩ := h
  · exact fun _ => rfl
  · intro h; cases h
theorem Full.lower {w : World} {B B' n : Nat} {ao : Option Addr} {l : List UInt8} (h : Full w B ao n l) (hB : B' ≤ B) : Full w B' ao n l := by
  obtain ⟨hl, h | ⟨g, h1, h2, h3, hr⟩⟩ := h
  · exact ⟨hl, .inl h⟩
  · exact ⟨hl, .inr ⟨g, h1, h2, Nat.le_trans hB h3, hr⟩⟩
theorem Full.keep {w w' : World} {B n : Nat} {ao : Option Addr} {l : List UInt8} (h : Full w B ao n l) (hb : Below w.heap.size w w') : Full w' B ao n l := by
  obtain ⟨hl, h | ⟨g, h1, h2, h3, hr⟩⟩ := h
  · exact ⟨hl, .inl h⟩
  · exact ⟨hl, .inr ⟨g, h1, h2, h3, hr.below hb hr.lt⟩⟩
/-- The block that a slice lies in. -/
def rowOf (ao : Option Addr) : Option Nat := ao.map (·.block)
theorem Row.apart {w w' : World} {g : Nat} {l : List UInt8} {r : Option Nat} (h : Row w g l) (hg : w.grownBy w' r) (hne : some g ≠ r) : Row w' g l := by
  unfold Row at *
  rw [hg.block g (heap_lt h) hne]; exact h
/-- Where another slice was written: its block lies below. -/
theorem Full.apart {w w' : World} {B n : Nat} {ao : Option Addr} {l : List UInt8} {r : Option Nat} (h : Full w B ao n l) (hg : w.grownBy w' r) (hr : ∀ k, r = some k → k < B) : Full w' B ao n l := by
  obtain ⟨hl, h | ⟨g, h1, h2, h3, hrow⟩⟩ := h
  · exact ⟨hl, .inl h⟩
  · exact ⟨hl, .inr ⟨g, h1, h2, h3, hrow.apart hg (fun e => by have := hr g e.symm; omega)⟩⟩
/-- Where another slice was written: its block lies above. -/
theorem Full.under {w w' : World} {B B' n : Nat} {ao : Option Addr} {l : List UInt8} {r : Option Nat} (h : Full w B ao n l) (hg : w.grownBy w' r) (hB : ∀ a, ao = some a → a.block < B') (hr : ∀ k, r = some k → B' ≤ k) : Full w' B ao n l := by
  obtain ⟨hl, h | ⟨g, h1, h2, h3, hrow⟩⟩ := h
  · exact ⟨hl, .inl h⟩
  · exact ⟨hl, .inr ⟨g, h1, h2, h3, hrow.apart hg (fun e => by have h4 := hr g e.symm; have h5 := hB _ h1; simp at h5; omega)⟩⟩
theorem Full.lt {w : World} {B n : Nat} {ao : Option Addr} {l : List UInt8} (h : Full w B ao n l) : ∀ a, ao = some a → a.block < w.heap.size := by
  intro a ha
  obtain ⟨hl, ⟨rfl, _⟩ | ⟨g, rfl, _, _, hr⟩⟩ := h
  · cases ha
  · cases ha; exact hr.lt
theorem Full.row_ge {w : World} {B n : Nat} {ao : Option Addr} {l : List UInt8} (h : Full w B ao n l) : ∀ k, rowOf ao = some k → B ≤ k ∧ k < w.heap.size := by
  intro k hk
  obtain ⟨hl, ⟨rfl, _⟩ | ⟨g, rfl, _, hB, hr⟩⟩ := h
  · cases hk
  · simp [rowOf] at hk; subst hk; exact ⟨hB, hr.lt⟩
theorem Full.at {w : World} {B n : Nat} {ao : Option Addr} {l : List UInt8} (h : Full w B ao n l) (h0 : 0 < n) : ∃ g, ao = some ⟨g, 0, Option.none⟩ ∧ B ≤ g ∧ Row w g l := by
  obtain ⟨hl, ⟨_, h1⟩ | ⟨g, h1, _, h3, hr⟩⟩ := h
  · omega
  · exact ⟨g, h1, h3, hr⟩
theorem Own.apart {w w' : World} {B : Nat} {v : Value} {l : List UInt8} {r : Option Nat} (h : Own w B v l) (hg : w.grownBy w' r) (hr : ∀ k, r = some k → k < B) : Own w' B v l := by
  refine World.ownsRow.kept h hg ?_
  cases hv : v.ownBlock with
  | none => exact .inl rfl
  | some k =>
    right
    have := World.ownsRow.lt h k hv
    intro e
    have := hr k e.symm
    omega
/-- Written over from the head on. -/
def overL (l : List UInt8) (x : UInt8) (k : Nat) : List UInt8 := List.replicate k x ++ l.drop k
theorem overL_zero (l : List UInt8) (x : UInt8) : overL l x 0 = l := by simp [overL]
theorem overL_all (l : List UInt8) (x : UInt8) : overL l x l.length = List.replicate l.length x := by simp [overL]
theorem overL_len (l : List UInt8) (x : UInt8) (k : Nat) (h : k ≤ l.length) : (overL l x k).length = l.length := by simp [overL]; omega
theorem overL_set (l : List UInt8) (x : UInt8) (k : Nat) (h : k < l.length) : (overL l x k).set k x = overL l x (k + 1) := by
  unfold overL
  rw [List.set_append_right _ _ (by simp)]
  have e : l.drop k = l[k] :: l.drop (k + 1) := List.drop_eq_getElem_cons h
  rw [e]
  simp only [List.length_replicate, Nat.sub_self, List.set_cons_zero, List.replicate_succ', List.append_assoc, List.cons_append, List.nil_append]
theorem Full.set {w : World} {B n g : Nat} {l : List UInt8} (h : Full w B (some ⟨g, 0, Option.none⟩) n l) (k : Nat) (x : UInt8) : Full (w.setCell ⟨g, k, Option.none⟩ (.int .u8 (x.toNat : Int))) B (some ⟨g, 0, Option.none⟩) n (l.set k x) := by
  obtain ⟨hl, ⟨h1, _⟩ | ⟨g', h1, h2, h3, hr⟩⟩ := h
  · cases h1
  · cases h1
    exact ⟨by rw [List.length_set, hl], .inr ⟨g, rfl, h2, h3, hr.set k x⟩⟩

/-- 'append(b, x, ..)' where b has no room: the answer is new memory. -/
theorem wpList_appendF {w : World} {ops : Array Oper} {rest : List Oper} {o : Oper} {a : Act} {Q : Exit → Act → World → Prop} (hgd : o.guard = Option.none) (s x : Operand)
    (ho : o.op = .call { callee := .builtin .append, args := #[s, x], argTypes := #[27, 27] })
    (ao : Option Addr) (n : Nat) (l m : List UInt8) (hs : a.eval s = .slice ao n n) (hn : ao = Option.none → n = 0) (hl : l.length = n) (hr : Rd w ao l) (g2 : Nat) (n2 c2 : Nat) (hx : a.eval x = .slice (some ⟨g2, 0, Option.none⟩) n2 c2) (hm : m.length = n2) (hr2 : Rd w (some ⟨g2, 0, Option.none⟩) m) (h0 : 0 < n2)
    (hle : n + n2 ≤ 140737488355328)
    (h : ∀ v' w', Own w' w.heap.size v' (l ++ m) → Below w.heap.size w w' → wpList Tryd.prog ops Q rest (a.put o.dst v') w') : wpList Tryd.prog ops Q (o :: rest) a w := by
  obtain ⟨i0, hi, hz0, hz1, hz2⟩ := info_parts Tryd.infoU8
  subst hl; subst hm
  obtain ⟨b2, o2, e2, _, hc2⟩ := hr2.some h0
  cases e2
  refine wpList_append_grows w hgd s x 27 ho 5 i0 (.int .u8 0) 1 1 Tryd.underlying27 hi hz0 hz1 hz2 rfl (by decide) ao l.length l.length (l.map bv) hs (fun h => ⟨hn h, hn h⟩) (by simp) ?_ ⟨g2, 0, Option.none⟩ m.length c2 (m.map bv) hx (by simp) (bv_cells hc2) (oneCell_bv m) (by omega) (by unfold maxLen; omega) (by omega) ?_
  · intro b hb j u hj
    have hlen : j < l.length := by have := (List.getElem?_eq_some_iff.1 hj).1; simpa using this
    obtain ⟨b1, o1, e1, _, hc1⟩ := hr.some (by omega)
    rw [hb] at e1
    cases e1
    exact bv_cells hc1 j u hj
  · intro v' w' h1 h2
    refine h v' w' (by simpa [Own] using h1) ((Below.refl _ w).grown h2 (Nat.le_refl _) (fun k hk => by cases hk))

/-- The room behind. -/
def roomL (t : Nat) : List UInt8 := List.replicate t 165 ++ List.replicate (3 - t) 0
theorem room_set (l : List UInt8) (t : Nat) (h : t < 3) : (l ++ roomL t).set (l.length + t) 165 = l ++ roomL (t + 1) := by
  rw [List.set_append_right _ _ (by omega), show l.length + t - l.length = t by omega]
  have hc : t = 0 ∨ t = 1 ∨ t = 2 := by omega
  rcases hc with rfl | rfl | rfl <;> rfl
def roomy (l : List UInt8) : List UInt8 := l ++ [165, 165, 165]
set_option maxRecDepth 100000 in
set_option maxHeartbeats 1000000 in
theorem law06_room_any (ao : Option Addr) (n cap : Nat) (l : List UInt8) (w : World) (hl : l.length = n) (hr : Rd w ao l) (hb : n ≤ 140737488355328) :
    Calls Tryd.prog 52 #[.slice ao n cap] w (NewRow w (roomy l)) := by
  have HL := Lib.hid hl; have HR := Lib.hid hr
  clear hl hr
  go_enter Tryd.func52, Tryd.ntmps52
  go_wp2_with (first
    | (at_make; refine wpList_makeB rfl _ _ rfl _ _ (n + 3) rfl rfl (by omega) (by omega) (by omega) ?_; intro w1 hrow hg1; have HROW := Lib.hid (show w1.heap[w.heap.size]? = some (.cells ((List.replicate (n + 3) (0 : UInt8)).map bv).toArray 5 (0, 0)) from hrow); have HB1 := Lib.hid ((Below.refl w.heap.size w).grown hg1 (Nat.le_refl _) (fun k hk => by cases hk)); clear hrow hg1)
    | ((with_reducible refine wpList_copyB rfl (.tmp 9) (.tmp 10) 27 27 rfl 5 Tryd.underlying27 Tryd.sizeU8 _ _ _ _ _ _ rfl rfl w.heap.size 0 ((List.replicate (n + 3) (0 : UInt8)).map bv) 5 HROW.out l HL.out (HR.out.step HB1.out) (by omega) (fun _ => rfl) (by simp) w.heap.size w HB1.out (Nat.le_refl _) ?_); intro w2 hrow2 hB2))
  have hrow3 : Row w2 w.heap.size (l ++ roomL 0) := by
    unfold Row
    rw [hrow2.out]
    have e : splice ((List.replicate (n + 3) (0 : UInt8)).map bv) 0 (l.map bv) = (l ++ roomL 0).map bv := by
      have := HL.out
      unfold splice roomL
      simp only [List.take_zero, List.nil_append, Nat.zero_add, List.length_map, List.replicate_zero, Nat.sub_zero, List.map_append]
      congr 1
      rw [← List.map_drop, List.drop_replicate, show n + 3 - l.length = 3 by omega]
    rw [e]
  have HROW3 := Lib.hid hrow3; have HB2 := Lib.hid hB2
  clear hrow2 hB2 hrow3
  go_loopw [4] (fun i wr => ∃ t : Nat, t ≤ 3 ∧ i = .int .i64 (n + t : Nat) ∧ Row wr w.heap.size (l ++ roomL t) ∧ Below w.heap.size w wr) (fun i _ => n + 3 - (intOf i).toNat)
  case atStart => exact ⟨0, Nat.zero_le _, rfl, HROW3.out, HB2.out⟩
  case round =>
    obtain ⟨t, ht, rfl, hrow, hbel⟩ := hrel
    have HROW4 := Lib.hid hrow; have HBEL := Lib.hid hbel
    clear hrow hbel
    by_cases hlt : t < 3
    · have hlen : n + t < n + 3 := by omega
      have hfz : wr.frozen? ⟨w.heap.size, n + t, none⟩ = false := HROW4.out.frozen _ _
      have hcl := HROW4.out.cell (n + t) (by have := HL.out; simp [roomL]; omega)
      have hset := HROW4.out.set (n + t) 165
      have hs2 := room_set l t hlt
      rw [HL.out] at hs2
      rw [hs2] at hset
      have HSET := Lib.hid hset
      clear hset hs2
      go_wp2_with fail
      go_roundw
      case rel => exact ⟨t + 1, by omega, by go_num, HSET.out, HBEL.out.setCell (Nat.le_refl _) _⟩
      case measure => simp [intOf]; omega
    · obtain rfl : t = 3 := by omega
      go_wp2_with fail
      go_ret
      exact ⟨w.heap.size, by unfold roomy; simp [HL.out], Nat.le_refl _, HROW4.out, HBEL.out⟩
set_option maxRecDepth 100000 in
set_option maxHeartbeats 1000000 in
theorem law03_room_any (ao : Option Addr) (n cap : Nat) (l : List UInt8) (w : World) (hl : l.length = n) (hr : Rd w ao l) (hb : n ≤ 140737488355328) :
    Calls Tryd.prog 38 #[.slice ao n cap] w (NewRow w (roomy l)) := by
  have HL := Lib.hid hl; have HR := Lib.hid hr
  clear hl hr
  go_enter Tryd.func38, Tryd.ntmps38
  go_wp2_with (first
    | (at_make; refine wpList_makeB rfl _ _ rfl _ _ (n + 3) rfl rfl (by omega) (by omega) (by omega) ?_; intro w1 hrow hg1; have HROW := Lib.hid (show w1.heap[w.heap.size]? = some (.cells ((List.replicate (n + 3) (0 : UInt8)).map bv).toArray 5 (0, 0)) from hrow); have HB1 := Lib.hid ((Below.refl w.heap.size w).grown hg1 (Nat.le_refl _) (fun k hk => by cases hk)); clear hrow hg1)
    | ((with_reducible refine wpList_copyB rfl (.tmp 9) (.tmp 10) 27 27 rfl 5 Tryd.underlying27 Tryd.sizeU8 _ _ _ _ _ _ rfl rfl w.heap.size 0 ((List.replicate (n + 3) (0 : UInt8)).map bv) 5 HROW.out l HL.out (HR.out.step HB1.out) (by omega) (fun _ => rfl) (by simp) w.heap.size w HB1.out (Nat.le_refl _) ?_); intro w2 hrow2 hB2))
  have hrow3 : Row w2 w.heap.size (l ++ roomL 0) := by
    unfold Row
    rw [hrow2.out]
    have e : splice ((List.replicate (n + 3) (0 : UInt8)).map bv) 0 (l.map bv) = (l ++ roomL 0).map bv := by
      have := HL.out
      unfold splice roomL
      simp only [List.take_zero, List.nil_append, Nat.zero_add, List.length_map, List.replicate_zero, Nat.sub_zero, List.map_append]
      congr 1
      rw [← List.map_drop, List.drop_replicate, show n + 3 - l.length = 3 by omega]
    rw [e]
  have HROW3 := Lib.hid hrow3; have HB2 := Lib.hid hB2
  clear hrow2 hB2 hrow3
  go_loopw [4] (fun i wr => ∃ t : Nat, t ≤ 3 ∧ i = .int .i64 (n + t : Nat) ∧ Row wr w.heap.size (l ++ roomL t) ∧ Below w.heap.size w wr) (fun i _ => n + 3 - (intOf i).toNat)
  case atStart => exact ⟨0, Nat.zero_le _, rfl, HROW3.out, HB2.out⟩
  case round =>
    obtain ⟨t, ht, rfl, hrow, hbel⟩ := hrel
    have HROW4 := Lib.hid hrow; have HBEL := Lib.hid hbel
    clear hrow hbel
    by_cases hlt : t < 3
    · have hlen : n + t < n + 3 := by omega
      have hfz : wr.frozen? ⟨w.heap.size, n + t, none⟩ = false := HROW4.out.frozen _ _
      have hcl := HROW4.out.cell (n + t) (by have := HL.out; simp [roomL]; omega)
      have hset := HROW4.out.set (n + t) 165
      have hs2 := room_set l t hlt
      rw [HL.out] at hs2
      rw [hs2] at hset
      have HSET := Lib.hid hset
      clear hset hs2
      go_wp2_with fail
      go_roundw
      case rel => exact ⟨t + 1, by omega, by go_num, HSET.out, HBEL.out.setCell (Nat.le_refl _) _⟩
      case measure => simp [intOf]; omega
    · obtain rfl : t = 3 := by omega
      go_wp2_with fail
      go_ret
      exact ⟨w.heap.size, by unfold roomy; simp [HL.out], Nat.le_refl _, HROW4.out, HBEL.out⟩
end Go.Proofs.YtoophonmonojcaaDoor

/- Small laws for answers that are written over. -/
namespace Go.Proofs.YtoophonmonojcaaDoor
open Go.RowKit

theorem overL_full {l : List UInt8} {n : Nat} (h : l.length = n) (x : UInt8) : overL l x n = List.replicate n x := by subst h; exact overL_all l x
theorem repl_app (n : Nat) (x : UInt8) : List.replicate n x ++ [x, x, x] = List.replicate (n + 3) x := by
  rw [show [x, x, x] = List.replicate 3 x from rfl, List.replicate_append_replicate]
theorem repl_getD (n k : Nat) (x : UInt8) (h : k < n) : (List.replicate n x).getD k 0 = x := by simp [List.getD_eq_getElem?_getD, h]
theorem repl_app2 (n : Nat) (x : UInt8) : List.replicate n x ++ [x, x] = List.replicate (n + 2) x := by
  rw [show [x, x] = List.replicate 2 x from rfl, List.replicate_append_replicate]
theorem Own.cells {w : World} {B n : Nat} {v : Value} {x : UInt8} (h : Own w B v (List.replicate n x)) (h0 : 0 < n) : ∃ g cap, v = .slice (some ⟨g, 0, none⟩) n cap ∧ ∀ k, k < n → w.cell? ⟨g, k, none⟩ = some (.int .u8 (x.toNat : Int)) := by
  obtain ⟨ao, cap, rfl, hc, _, hrd, _, hnil, hg⟩ := h.shape
  rw [List.length_replicate] at hc ⊢
  cases ao with
  | none => have := hnil rfl; rw [List.replicate_eq_nil_iff] at this; omega
  | some a =>
    obtain ⟨g, rfl⟩ := hg a rfl
    refine ⟨g, cap, rfl, fun k hk => ?_⟩
    obtain ⟨b', o', e', hc'⟩ := hrd k (by simpa using hk)
    cases e'
    rw [Nat.zero_add, repl_getD _ _ _ hk] at hc'
    exact hc'
theorem Own.under {w w' : World} {B B' : Nat} {v : Value} {l : List UInt8} {r : Option Nat} (h : Own w B v l) (hg : w.grownBy w' r) (hB : ∀ k, v.ownBlock = some k → k < B') (hr : ∀ k, r = some k → B' ≤ k) : Own w' B v l := by
  refine World.ownsRow.kept h hg ?_
  cases hv : v.ownBlock with
  | none => exact .inl rfl
  | some k =>
    right
    intro e
    have h1 := hB k hv
    have h2 := hr k e.symm
    omega
theorem Own.sl {w : World} {B : Nat} {v : Value} {l : List UInt8} (h : Own w B v l) : ∃ ao cap, v = .slice ao l.length cap ∧ Rd w ao l := by
  obtain ⟨ao, cap, e, _, _, hrd, _, _, _⟩ := h.shape
  exact ⟨ao, cap, e, hrd⟩
theorem eq6_own (ao : Option Addr) (n : Nat) (l : List UInt8) (v : Value) (w : World) (B : Nat) (hl : l.length = n) (hr : Rd w ao l) (ho : Own w B v l) (hb : n ≤ 140737488355328) : Calls Tryd.prog 51 #[.slice ao n n, v] w (RetV w (.bool true)) := by
  obtain ⟨a2, c2, rfl, hr2⟩ := ho.sl
  rw [hl]
  refine (law06_eq_any ao a2 n n n c2 l l w hl hl hr hr2 hb).mono ?_
  intro e w' h
  have := h.below
  rw [beq_self_eq_true] at this
  exact this
end Go.Proofs.YtoophonmonojcaaDoor
