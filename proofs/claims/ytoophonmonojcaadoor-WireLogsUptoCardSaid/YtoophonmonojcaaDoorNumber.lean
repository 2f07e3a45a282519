/- Contracts of package octet's Reader, the numbers. -/
import Derived.Test.YtoophonmonojcaaDoorReader
namespace Go.Proofs.YtoophonmonojcaaDoor
open Go.RowKit

/-- The next bytes as a number, the highest first. -/
def numStep (x : Nat) (c : UInt8) : Nat := (x * 256 % 4294967296) ||| c.toNat
def num (l : List UInt8) : Nat := l.foldl numStep 0
theorem num_lt (l : List UInt8) : num l < 4294967296 := by
  have h : ∀ (l : List UInt8) (x : Nat), x < 4294967296 → l.foldl numStep x < 4294967296 := by
    intro l
    induction l with
    | nil => intro x h; exact h
    | cons c t ih => intro x _; exact ih _ (Nat.or_lt_two_pow (n := 32) (by omega) (by have := byte_lt32 c; omega))
  exact h l 0 (by decide)
theorem num_snoc (l : List UInt8) (k : Nat) (h : k < l.length) : num (l.take (k + 1)) = numStep (num (l.take k)) (l.getD k 0) := by
  rw [take_snoc l k h]; simp [num, List.foldl_append]
theorem num_step_walk (x : Nat) (c : UInt8) : bits .or .u32 ((x : Int) * 256 % 4294967296) ((c.toNat : Int) % 4294967296) = ((numStep x c : Nat) : Int) := by
  have hc := byte_lt32 c
  rw [show (x : Int) * 256 % 4294967296 = ((x * 256 % 4294967296 : Nat) : Int) by omega, show (c.toNat : Int) % 4294967296 = ((c.toNat : Nat) : Int) by omega, u32_or_nat _ _ (by omega) hc]
  rfl
theorem num_one (a : UInt8) : num [a] = a.toNat := by simp [num, numStep]
theorem num_two (a b : UInt8) : num [a, b] = a.toNat * 256 + b.toNat := by
  have ha := a.toNat_lt
  have hb := b.toNat_lt
  simp only [num, List.foldl_cons, List.foldl_nil, numStep, Nat.zero_mul, Nat.zero_mod, Nat.zero_or]
  rw [Nat.mod_eq_of_lt (by omega), show a.toNat * 256 = a.toNat <<< 8 by rw [Nat.shiftLeft_eq], Nat.shiftLeft_add_eq_or_of_lt (by omega)]

/-- number handed back the next n bytes as a number. -/
def NumOk (w : World) (g gb : Nat) (l : List UInt8) (at_ n : Nat) (k : IntKind) (e : Ending) (w' : World) : Prop :=
  e = .returned (.int k (num ((l.drop at_).take n) : Nat)) ∧ ReaderAt w' g gb l (at_ + n) .nilIface ∧ w.grownBy w' (some g)

set_option maxHeartbeats 1000000 in
theorem number_ok (g gb : Nat) (l : List UInt8) (at_ n : Nat) (w : World) (hr : ReaderAt w g gb l at_ .nilIface) (hle : at_ + n ≤ l.length) (hl : l.length ≤ 140737488355328) :
    Calls Tryd.prog 134 #[.pointer (some ⟨g, 0, none⟩), .int .i64 n] w (NumOk w g gb l at_ n .u32) := by
  have HR := Lib.hid hr; clear hr
  go_enter Tryd.func134, Tryd.ntmps134
  go_wp2_with fail
  refine (next_ok g gb l at_ n _ HR.out hle hl).mono ?_
  rintro e w1 ⟨ao, c, rfl, hnc, hrd, hra, hg⟩
  have HG := Lib.hid hg
  have HA := Lib.hid hra
  have hlen : ((l.drop at_).take n).length = n := by simp; omega
  obtain ⟨b, off, hao, hc⟩ := hrd.open hlen
  clear hrd hra hg
  obtain ⟨q, hq⟩ : ∃ q, q = (l.drop at_).take n := ⟨_, rfl⟩
  rw [← hq] at hc hlen
  have HQ := Lib.hid hq; have HL := Lib.hid hlen; clear hq hlen
  have hn : n ≤ 140737488355328 := by omega
  rcases hao with hao | hp
  · rw [hao]
    clear hao
    go_wp2_with fail
    go_loop [5, 12] (fun v i => ∃ (k x : Nat), k ≤ n ∧ i = .int .i64 k ∧ v = .int .u32 x ∧ Hid (x = num (q.take k))) (fun _ i => n - (intOf i).toNat)
    case atStart => exact ⟨0, 0, Nat.zero_le _, rfl, rfl, rfl⟩
    case round =>
      obtain ⟨k, x, hk, rfl, rfl, hx⟩ := hrel
      by_cases hlt : k < n
      · have hcc := hc k hlt
        clear hc
        go_wp2
        go_round
        case rel =>
          refine ⟨k + 1, numStep x (q.getD k 0), by omega, by go_num, ?_, ?_⟩
          · rw [← num_step_walk x (q.getD k 0), List.getD_eq_getElem?_getD]
          · show _ = _
            rw [num_snoc q k (by have := HL.out; omega), ← hx.out]
        case measure => simp [intOf]; omega
      · obtain rfl : k = n := by omega
        clear hc
        go_wp2
        go_ret
        refine ⟨ret_int ?_, HA.out, HG.out⟩
        show (x : Int) = _
        rw [hx.out, ← HQ.out, List.take_of_length_le (by have := HL.out; omega)]
  · obtain rfl : n = 0 := by omega
    clear hc
    go_wp2_with fail
    refine wp_loop_rounds 1 ?_
    rw [rounds_succ]
    go_wp2
    go_ret
    exact ⟨rfl, HA.out, HG.out⟩

set_option maxHeartbeats 400000 in
theorem u8_ok (g gb : Nat) (l : List UInt8) (at_ : Nat) (w : World) (hr : ReaderAt w g gb l at_ .nilIface) (hle : at_ + 1 ≤ l.length) (hl : l.length ≤ 140737488355328) :
    Calls Tryd.prog 119 #[.pointer (some ⟨g, 0, none⟩)] w (NumOk w g gb l at_ 1 .i64) := by
  have HR := Lib.hid hr; clear hr
  have hn := num_lt ((l.drop at_).take 1)
  obtain ⟨x, hx⟩ : ∃ x, x = num ((l.drop at_).take 1) := ⟨_, rfl⟩
  have HX := Lib.hid hx
  rw [← hx] at hn
  clear hx
  go_enter Tryd.func119, Tryd.ntmps119
  go_wp2_with fail
  refine (number_ok g gb l at_ 1 _ HR.out hle hl).mono ?_
  rintro e w1 ⟨rfl, hra, hg⟩
  have HG := Lib.hid hg
  have HA := Lib.hid hra
  clear hra hg
  rw [← HX.out]
  go_wp2
  go_ret
  refine ⟨ret_int ?_, HA.out, HG.out⟩
  show (x : Int) = _
  rw [HX.out]

set_option maxHeartbeats 400000 in
theorem u16_ok (g gb : Nat) (l : List UInt8) (at_ : Nat) (w : World) (hr : ReaderAt w g gb l at_ .nilIface) (hle : at_ + 2 ≤ l.length) (hl : l.length ≤ 140737488355328) :
    Calls Tryd.prog 115 #[.pointer (some ⟨g, 0, none⟩)] w (NumOk w g gb l at_ 2 .i64) := by
  have HR := Lib.hid hr; clear hr
  have hn := num_lt ((l.drop at_).take 2)
  obtain ⟨x, hx⟩ : ∃ x, x = num ((l.drop at_).take 2) := ⟨_, rfl⟩
  have HX := Lib.hid hx
  rw [← hx] at hn
  clear hx
  go_enter Tryd.func115, Tryd.ntmps115
  go_wp2_with fail
  refine (number_ok g gb l at_ 2 _ HR.out hle hl).mono ?_
  rintro e w1 ⟨rfl, hra, hg⟩
  have HG := Lib.hid hg
  have HA := Lib.hid hra
  clear hra hg
  rw [← HX.out]
  go_wp2
  go_ret
  refine ⟨ret_int ?_, HA.out, HG.out⟩
  show (x : Int) = _
  rw [HX.out]

/-- A number where too few bytes are left: 0, and the reader has its first error. -/
def NumShort (w : World) (g gb : Nat) (l : List UInt8) (at_ : Nat) (k : IntKind) (e : Ending) (w' : World) : Prop :=
  e = .returned (.int k 0) ∧ ∃ ge, w.heap.size ≤ ge ∧ w'.heap[ge]? = some (faultObj at_ 10) ∧ ReaderAt w' g gb l at_ (faultV ge) ∧ w.grownBy w' (some g)

set_option maxHeartbeats 400000 in
theorem number_short (g gb : Nat) (l : List UInt8) (at_ n : Nat) (w : World) (hr : ReaderAt w g gb l at_ .nilIface) (hle : l.length < at_ + n) (ha : at_ ≤ l.length) (hl : l.length ≤ 140737488355328) :
    Calls Tryd.prog 134 #[.pointer (some ⟨g, 0, none⟩), .int .i64 n] w (NumShort w g gb l at_ .u32) := by
  have HR := Lib.hid hr; clear hr
  go_enter Tryd.func134, Tryd.ntmps134
  go_wp2_with fail
  refine (next_short g gb l at_ n _ HR.out hle ha hl).mono ?_
  rintro e w1 ⟨rfl, hx⟩
  have HX := Lib.hid hx; clear hx
  go_wp2_with fail
  refine wp_loop_rounds 1 ?_
  rw [rounds_succ]
  go_wp2
  go_ret
  exact ⟨rfl, HX.out⟩
theorem number_err (g gb : Nat) (l : List UInt8) (at_ n ge : Nat) (w : World) (hr : ReaderAt w g gb l at_ (faultV ge)) :
    Calls Tryd.prog 134 #[.pointer (some ⟨g, 0, none⟩), .int .i64 n] w fun e w' => e = .returned (.int .u32 0) ∧ ∃ k, w.drewN k = w' := by
  have HR := Lib.hid hr; clear hr
  go_enter Tryd.func134, Tryd.ntmps134
  go_wp2_with fail
  refine (next_err g gb l at_ n ge _ HR.out).mono ?_
  rintro e w1 ⟨rfl, k, rfl⟩
  go_wp2_with fail
  refine wp_loop_rounds 1 ?_
  rw [rounds_succ]
  go_wp2
  go_ret
  exact ⟨rfl, _, rfl⟩
theorem u16_short (g gb : Nat) (l : List UInt8) (at_ : Nat) (w : World) (hr : ReaderAt w g gb l at_ .nilIface) (hle : l.length < at_ + 2) (ha : at_ ≤ l.length) (hl : l.length ≤ 140737488355328) :
    Calls Tryd.prog 115 #[.pointer (some ⟨g, 0, none⟩)] w (NumShort w g gb l at_ .i64) := by
  have HR := Lib.hid hr; clear hr
  go_enter Tryd.func115, Tryd.ntmps115
  go_wp2_with fail
  refine (number_short g gb l at_ 2 _ HR.out hle ha hl).mono ?_
  rintro e w1 ⟨rfl, hx⟩
  have HX := Lib.hid hx; clear hx
  go_wp2
  go_ret
  exact ⟨rfl, HX.out⟩
theorem u16_err (g gb : Nat) (l : List UInt8) (at_ ge : Nat) (w : World) (hr : ReaderAt w g gb l at_ (faultV ge)) :
    Calls Tryd.prog 115 #[.pointer (some ⟨g, 0, none⟩)] w fun e w' => e = .returned (.int .i64 0) ∧ ∃ k, w.drewN k = w' := by
  have HR := Lib.hid hr; clear hr
  go_enter Tryd.func115, Tryd.ntmps115
  go_wp2_with fail
  refine (number_err g gb l at_ 2 ge _ HR.out).mono ?_
  rintro e w1 ⟨rfl, k, rfl⟩
  go_wp2
  go_ret
  exact ⟨rfl, _, rfl⟩

/-- A new reader over the bytes. -/
theorem newReader_any (ao : Option Addr) (n cap : Nat) (l : List UInt8) (w : World) (hl : l.length = n) (hr : Rd w ao l) (hn : n ≤ 140737488355000) :
    Calls Tryd.prog 114 #[.slice ao n cap] w fun e w' => ∃ g gb, e = .returned (.pointer (some ⟨g, 0, none⟩)) ∧ w.heap.size ≤ g ∧ w.heap.size ≤ gb ∧ ReaderAt w' g gb l 0 .nilIface ∧ Below w.heap.size w w' := by
  have HL := Lib.hid hl; have HR := Lib.hid hr; clear hl hr
  go_enter Tryd.func114, Tryd.ntmps114
  go_wp2_with fail
  refine (with_any _ _ _ _ 0 0 l [] _ HL.out rfl HR.out (Rd.nil _ _) (by omega)).mono ?_
  rintro e w1 ⟨gb, rfl, h2, h3, h4⟩
  have H3 := Lib.hid h3; have H4 := Lib.hid h4
  clear h3 h4
  go_wp2
  go_ret
  have h3 := H3.out
  have h4 := H4.out
  have hlt := h3.lt
  rw [List.append_nil] at h3
  refine ⟨w1.heap.size, gb, rfl, h4.size, h2, ⟨?_, ?_⟩, h4.trans ((Below.refl _ _).alloc h4.size _)⟩
  · have := heap_alloc_new w1 (.cells #[.slice (some ⟨gb, 0, none⟩) (l ++ []).length (l ++ []).length, .int .i64 0, .nilIface] 185)
    simpa using this
  · exact h3.below ((Below.refl _ _).alloc (Nat.le_refl _) _) hlt

theorem at_any (g gb : Nat) (l : List UInt8) (at_ : Nat) (ev : Value) (w : World) (hr : ReaderAt w g gb l at_ ev) :
    Calls Tryd.prog 120 #[.pointer (some ⟨g, 0, none⟩)] w fun e w' => e = .returned (.int .i64 at_) ∧ w = w' := by
  obtain ⟨c0, c1, c2, cf⟩ := hr.cells
  clear hr c0
  go_enter Tryd.func120, Tryd.ntmps120
  go_wp2
  go_ret
  exact ⟨rfl, rfl⟩
theorem err_any (g gb : Nat) (l : List UInt8) (at_ : Nat) (ev : Value) (w : World) (hr : ReaderAt w g gb l at_ ev) :
    Calls Tryd.prog 117 #[.pointer (some ⟨g, 0, none⟩)] w fun e w' => e = .returned ev ∧ w = w' := by
  obtain ⟨c0, c1, c2, cf⟩ := hr.cells
  clear hr c0
  go_enter Tryd.func117, Tryd.ntmps117
  go_wp2
  go_ret
  exact ⟨rfl, rfl⟩
end Go.Proofs.YtoophonmonojcaaDoor
