/- Contract of jotterlaw03's (*Shelf).untouched. -/
import Derived.Test.YtoophonmonojcaaDoorShelfL
namespace Go.Proofs.YtoophonmonojcaaDoor
open Go.RowKit

set_option maxRecDepth 100000 in
set_option maxHeartbeats 1000000 in
theorem untouched_any (w : World) (E S : Nat → Prop) (gs : Nat) (es : List (List UInt8)) (os : List (List (List UInt8))) (mark : Nat) (vL vW vO vP : Value) (h : ShelfIs w E S gs es es os os mark vL vW vO vP) (hes : es.length ≤ 100000) (hos : os.length ≤ 100000) (hsz : ∀ i, i < os.length → (os.getD i []).length ≤ 140737488355328) :
    Calls Tryd.prog 44 #[.pointer (some ⟨gs, 0, none⟩)] w (RetQ w (.bool true)) := by
  obtain ⟨aL, cL, eL, kL⟩ := h.rL.at
  obtain ⟨aW, cW, eW, kW⟩ := h.rW.at
  obtain ⟨aO, cO, eO, kO⟩ := h.rO.at
  obtain ⟨aP, cP, eP, kP⟩ := h.rP.at
  have hc0 : w.cell? ⟨gs, 0, none⟩ = some (.slice aL es.length cL) := by simp [World.cell?, h.cell, eL]
  have hc1 : w.cell? ⟨gs, 1, none⟩ = some (.slice aW es.length cW) := by simp [World.cell?, h.cell, eW]
  have hc2 : w.cell? ⟨gs, 2, none⟩ = some (.slice aO os.length cO) := by simp [World.cell?, h.cell, eO]
  have hc3 : w.cell? ⟨gs, 3, none⟩ = some (.slice aP os.length cP) := by simp [World.cell?, h.cell, eP]
  have KL := Lib.hid kL; have KW := Lib.hid kW; have KO := Lib.hid kO; have KP := Lib.hid kP; have HSZ := Lib.hid hsz
  clear kL kW kO kP eL eW eO eP h hsz
  obtain ⟨n, hn⟩ : ∃ n, n = es.length := ⟨_, rfl⟩
  obtain ⟨m, hm⟩ : ∃ m, m = os.length := ⟨_, rfl⟩
  rw [← hn] at hc0 hc1 hes
  rw [← hm] at hc2 hc3 hos
  have HN := Lib.hid hn; have HM := Lib.hid hm
  clear hn hm
  go_enter Tryd.func44, Tryd.ntmps44
  go_wp2
  go_loopw [3] (fun i wr => ∃ k nq : Nat, k ≤ n ∧ i = .int .i64 k ∧ wr = w.drewN nq) (fun i _ => n - (intOf i).toNat)
  case atStart => exact ⟨0, 0, Nat.zero_le _, rfl, rfl⟩
  case round =>
    obtain ⟨k, nq, hk, rfl, rfl⟩ := hrel
    by_cases hlt : k < n
    · obtain ⟨g1, a1, n1, c1, rfl, x1, e1, r1, b1, d1⟩ := KL.out k (by have := HN.out; omega)
      obtain ⟨g2, a2, n2, c2, rfl, x2, e2, r2, b2, d2⟩ := KW.out k (by have := HN.out; omega)
      rw [← HN.out] at d1 d2
      have hcall : ∀ nn : Nat, Calls Tryd.prog 42 #[.slice a1 n1 c1, .slice a2 n2 c2] (w.drewN nn) (RetQ (w.drewN nn) (.bool true)) := fun nn => by
        have := law03_eq_any a1 a2 n1 c1 n2 c2 (es.getD k []) (es.getD k []) (w.drewN nn) e1.symm e2.symm (r1.step (below_drewN (Below.refl _ _) _)) (r2.step (below_drewN (Below.refl _ _) _)) b1
        simpa using this
      have HC := Lib.hid hcall
      clear hcall r1 r2 b1 b2 e1 e2
      go_wp2
      go_quiet ((go_at_call 42; exact quiet_Q2 (HC.out _)))
      go_wp2
      go_roundw
      case rel => exact ⟨k + 1, _, by omega, by go_num, rfl⟩
      case measure => simp [intOf]; omega
    · obtain rfl : k = n := by omega
      go_wp2
      go_loopw [4] (fun i wr => ∃ j mq : Nat, j ≤ m ∧ i = .int .i64 j ∧ wr = w.drewN mq) (fun i _ => m - (intOf i).toNat)
      case atStart => exact ⟨0, nq, Nat.zero_le _, rfl, rfl⟩
      case round =>
        obtain ⟨j, mq, hj, rfl, rfl⟩ := hrel
        by_cases hlt2 : j < m
        · obtain ⟨g1, a1, n1, c1, rfl, x1, e1, r1, b1, d1⟩ := KO.out j (by have := HM.out; omega)
          obtain ⟨g2, a2, n2, c2, rfl, x2, e2, r2, b2, d2⟩ := KP.out j (by have := HM.out; omega)
          rw [← HM.out] at d1 d2
          have hlen := HSZ.out j (by have := HM.out; omega)
          have hcall : ∀ nn : Nat, Calls Tryd.prog 36 #[.slice a1 n1 c1, .slice a2 n2 c2] (w.drewN nn) (RetQ (w.drewN nn) (.bool true)) := fun nn => by
            have := eqAll_any a1 a2 n1 c1 n2 c2 (os.getD j []) (os.getD j []) (w.drewN nn) e1.symm e2.symm (r1.step (below_drewN (Below.refl _ _) _)) (r2.step (below_drewN (Below.refl _ _) _)) (by rw [e1]; exact hlen) b1
            simpa using this
          have HC := Lib.hid hcall
          clear hcall r1 r2 b1 b2 e1 e2 hlen
          go_wp2
          go_quiet ((go_at_call 36; exact quiet_Q2 (HC.out _)))
          go_wp2
          go_roundw
          case rel => exact ⟨j + 1, _, by omega, by go_num, rfl⟩
          case measure => simp [intOf]; omega
        · obtain rfl : j = m := by omega
          go_wp2
          go_ret
          exact ⟨rfl, _, rfl⟩
end Go.Proofs.YtoophonmonojcaaDoor
