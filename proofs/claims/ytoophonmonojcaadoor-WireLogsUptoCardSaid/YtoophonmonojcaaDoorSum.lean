/- Contracts of octet.Sum and octet.Seal, where the table reads as the program lays it. -/
import Derived.Test.YtoophonmonojcaaDoorOctet
namespace Go.Proofs.YtoophonmonojcaaDoor
open Go.RowKit

/-- The table of package octet lies in memory as its initialiser lays it. -/
def Tab (w : World) : Prop := ∀ i, i < 16 → w.cell? ⟨5, i, none⟩ = some (.int .u32 ((table.getD i 0 : Nat) : Int))
theorem Tab.step {w w' : World} (h : Tab w) (hb : Below w.heap.size w w') : Tab w' := fun i hi => (hb.cell (p := ⟨5, i, none⟩) (block_lt (h i hi))).trans (h i hi)
theorem Tab.walk {w : World} (h : Tab w) (z : Int) : w.cell? ⟨5, (bits .and .u32 z 15).toNat, none⟩ = some (.int .u32 (tabv z)) :=
  h _ (by have := and15_lt z; have := and15_nonneg z; omega)

set_option maxHeartbeats 400000 in
set_option maxRecDepth 100000 in
theorem sum_any (ao : Option Addr) (n cap : Nat) (l : List UInt8) (w : World) (hl : l.length = n) (hr : Rd w ao l) (hn : n ≤ 140737488355328) (ht : Tab w) :
    Calls Tryd.prog 106 #[.slice ao n cap] w fun e w' => e = .returned (.int .u32 (sum l : Nat)) ∧ w = w' := by
  have HT := Lib.hid ht
  obtain ⟨b, off, hao, hc⟩ := hr.open hl
  have hT := ht.walk
  have hB0 := and15_nonneg
  have hB1 := and15_lt
  have HL := Lib.hid hl
  clear hl hr ht
  rcases hao with rfl | hp
  all_goals
    go_enter Tryd.func106, Tryd.ntmps106
    go_wp2
    go_loop [3, 8] (fun r i => ∃ (k x : Nat), k ≤ n ∧ i = .int .i64 k ∧ Hid (x = crcFrom 4294967295 (l.take k)) ∧ r = .int .u32 x) (fun _ i => n - (intOf i).toNat)
    case atStart => exact ⟨0, 4294967295, Nat.zero_le _, rfl, (by show _ = _; simp [crcFrom]), by simp⟩
    case round =>
      obtain ⟨k, x, hk, rfl, hx, rfl⟩ := hrel
      have hcell : k < n → w.cell? ⟨b, off + k, none⟩ = some (.int .u8 ((l.getD k 0).toNat : Int)) := fun h => hc k h
      clear hc
      by_cases hlt : k < n
      · first
          | (exfalso; omega)
          | (go_wp2
             go_round
             case rel =>
               have hx' : x < 4294967296 := by rw [hx.out]; exact crcFrom_lt _ (by decide)
               have hl := HL.out
               refine ⟨k + 1, crcStep x (l.getD k 0), by omega, by go_num, ?_, ?_⟩
               · show _ = _
                 rw [take_snoc l k (by omega), crcFrom_snoc, ← hx.out]
               · rw [← round_step x hx' (l.getD k 0), List.getD_eq_getElem?_getD, Int.emod_eq_of_lt (by omega) (by have := (l[k]?.getD 0).toNat_lt; omega)]
             case measure => simp [intOf]; omega)
      · go_wp2
        go_ret
        obtain rfl : k = n := by omega
        have hx' : x < 4294967296 := by rw [hx.out]; exact crcFrom_lt _ (by decide)
        refine ⟨ret_int ?_, rfl⟩
        have hl := HL.out
        show bits .xor .u32 IntKind.u32.max (x : Int) = _
        rw [xor_max hx', hx.out, List.take_of_length_le (by omega)]
        rfl
end Go.Proofs.YtoophonmonojcaaDoor
