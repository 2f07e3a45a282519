/- Contracts of wal.Log: All, Count, Synced. -/
import Derived.Test.YtoophonmonojcaaDoorLogOpen
namespace Go.Proofs.YtoophonmonojcaaDoor
open Go.RowKit

theorem Own.elem0 {w : World} {B : Nat} {v : Value} {p : List UInt8} (h : Own w B v p) : Elem w 0 B v p := by
  have h0 := h
  obtain ⟨ao, cap, e, h1, _, h3, h4, h5, _⟩ := h.shape
  refine ⟨ao, cap, e, h1, h3, ?_, fun _ a ha => .inr ⟨(h4 a ha).1, ?_⟩⟩
  · subst e; exact h0.rd.2.2.2.2
  · subst e; subst ha
    rcases h0.2 with ⟨e, _⟩ | ⟨g, c, cur, e, _, hg, _⟩
    · cases e
    · cases e; exact ⟨cur, hg⟩
theorem RowsS.at2 {w : World} {S : Nat → Prop} {v : Value} {ps : List (List UInt8)} (h : RowsS w S v ps) : ∃ ao cap, v = .slice ao ps.length cap ∧ ∀ i, i < ps.length → ∃ g a n c, ao = some ⟨g, 0, none⟩ ∧ w.cell? ⟨g, i, none⟩ = some (.slice a n c) ∧ n = (ps.getD i []).length ∧ Rd w a (ps.getD i []) ∧ (a = none → c = 0) ∧ ps.length ≤ cap := by
  obtain ⟨vs, h1, h2, h3⟩ := h
  obtain ⟨ao, cap, e, hc, hn, hs⟩ := ownsRow_shape h1
  refine ⟨ao, cap, e, fun i hi => ?_⟩
  cases ao with
  | none => have := (hn rfl).1; omega
  | some a =>
    obtain ⟨g, rfl, cur, _, hcell⟩ := hs a rfl
    have hx : vs[i]? = some (vs[i]'(by omega)) := List.getElem?_eq_getElem (by omega)
    obtain ⟨a', c', e', _, hr, hnil, _, _⟩ := h3 i _ _ hx (show ps[i]? = some (ps.getD i []) by rw [List.getD_eq_getElem?_getD, List.getElem?_eq_getElem hi]; rfl)
    exact ⟨g, a', _, c', rfl, by rw [hcell i _ hx, e'], rfl, hr, hnil, hc⟩
set_option maxHeartbeats 1000000 in
theorem count_any (E S : Nat → Prop) (gl gd : Nat) (lv ev : Value) (ps pe : List (List UInt8)) (w : World) (h : LogAt w E S gl gd lv ev ps pe) :
    Calls Tryd.prog 59 #[.pointer (some ⟨gl, 0, none⟩)] w fun e w' => e = .returned (.int .i64 (ps.length : Int)) ∧ w = w' := by
  have hc0 := h.c1
  obtain ⟨ao, cap, rfl, -⟩ := h.list.at
  clear h
  go_enter Tryd.func59, Tryd.ntmps59
  go_wp2_with fail
  go_ret
  exact ⟨rfl, rfl⟩
/-- What All answers. -/
def AllPost (w : World) (ps : List (List UInt8)) (e : Ending) (w' : World) : Prop := ∃ v, e = .returned v ∧ OwnRows w' 0 w.heap.size v ps ∧ Below w.heap.size w w'
set_option maxRecDepth 100000 in
set_option maxHeartbeats 2000000 in
theorem all_any (E S : Nat → Prop) (gl gd : Nat) (lv ev : Value) (ps pe : List (List UInt8)) (w : World) (h : LogAt w E S gl gd lv ev ps pe) (hn : ps.length ≤ 1000000) (hp : ∀ p ∈ ps, p.length ≤ 1000000) :
    Calls Tryd.prog 57 #[.pointer (some ⟨gl, 0, none⟩)] w (AllPost w ps) := by
  have hc0 := h.c1
  obtain ⟨ao, cap, rfl, hat⟩ := h.list.at2
  have HAT := Lib.hid hat; have HP := Lib.hid hp
  have hgl := heap_lt h.cell
  clear h hat hp
  obtain ⟨n, hn'⟩ : ∃ n, n = ps.length := ⟨_, rfl⟩
  rw [← hn'] at hc0 hn
  have HN := Lib.hid hn'
  clear hn'
  go_enter Tryd.func57, Tryd.ntmps57
  go_wp2_with fail
  go_loopw [3, 11] (fun r i wr => ∃ k : Nat, k ≤ n ∧ i = .int .i64 k ∧ OwnRows wr 0 w.heap.size r (ps.take k) ∧ Below w.heap.size w wr) (fun _ i _ => n - (intOf i).toNat)
  case atStart => exact ⟨0, Nat.zero_le _, rfl, OwnRows.nil _ _ _, Below.refl _ _⟩
  case round =>
    obtain ⟨k, hk, rfl, hown, hbel⟩ := hrel
    by_cases hlt : k < n
    · have hkl : k < ps.length := by have := HN.out; omega
      obtain ⟨g, ax, nx, cx, rfl, hx, hnx, hrx, hnil, hcap⟩ := HAT.out k hkl
      have hxr : wr.cell? ⟨g, k, none⟩ = some (.slice ax nx cx) := (World.cell?_of_block (w := w) (a := ⟨g, k, none⟩) (hbel.block g (block_lt hx))).trans hx
      have hq : (ps.getD k []).length ≤ 1000000 := HP.out _ (by rw [List.getD_eq_getElem?_getD, List.getElem?_eq_getElem hkl]; exact List.getElem_mem _)
      have HRX := Lib.hid (hrx.step hbel); have HNX := Lib.hid hnx.symm; have HNIL := Lib.hid hnil; have HOWN := Lib.hid hown; have HBEL := Lib.hid hbel
      have hnxb : nx ≤ 1000000 := by omega
      clear hrx hnx hnil hown hbel hx hcap hq
      go_wp2_with (first
        | (at_builtin; refine wpList_appendO rfl (.const (.slice none 0 0)) (.tmp 16) rfl w.heap.size (.slice none 0 0) [] (ps.getD k []) rfl (World.ownsRow_nil _ _ _ _) ax nx cx rfl HNIL.out HNX.out HRX.out (by simp; omega) HBEL.out.size nx (by simp) ?_; intro a7 c7 w7 ho7 hg7 _; have HO7 := Lib.hid ho7; have HB7 := Lib.hid (HBEL.out.grown hg7 HBEL.out.size (fun q hq => by cases hq)); have HOWN7 := Lib.hid (HOWN.out.keep ((Below.refl _ wr).grown hg7 (Nat.le_refl _) (fun q hq => by cases hq))); clear ho7 hg7)
        | (at_builtin; go_must (with_reducible refine wpList_appendRow rfl (.tmp 15) (.tmp 18) rfl 0 w.heap.size (Nat.zero_le _) _ (ps.take k) rfl (HOWN7.out.keep (balloc w7 _)) ⟨w7.heap.size, 0, none⟩ 1 rfl _ (ps.getD k []) (by simp) ((Own.elem0 HO7.out).keep (balloc w7 _)) (by simp; omega) (by have := HB7.out.size; simp; omega) ?_); intro v8 w8 ho8 hg8))
      have HO8 := Lib.hid ho8; have HG8 := Lib.hid (show (w7.alloc (.cells #[.slice a7 nx c7] 27)).grownBy w8 u3.ownBlock from hg8)
      clear ho8 hg8
      go_roundw
      case rel =>
        refine ⟨k + 1, by omega, by go_num, by rw [← take_snocD _ _ hkl]; exact HO8.out, ?_⟩
        exact (HOWN7.out.keep (balloc w7 (.cells #[.slice a7 nx c7] 27))).grown (HB7.out.alloc HB7.out.size _) (by have := HB7.out.size; simp; omega) HG8.out
      case measure => simp [intOf]; omega
    · obtain rfl : k = n := by omega
      have HOWN := Lib.hid hown; have HBEL := Lib.hid hbel
      clear hown hbel
      go_wp2_with fail
      go_ret
      refine ⟨_, rfl, ?_, HBEL.out⟩
      have := HOWN.out
      rw [List.take_of_length_le (by have := HN.out; omega)] at this
      exact this
set_option maxRecDepth 100000 in
set_option maxHeartbeats 2000000 in
/-- Synced: how many of the ends lie in the synced bytes, where the first k do and the next does not. -/
theorem lsynced_any (E S : Nat → Prop) (B gl gd s : Nat) (v lv ev : Value) (bs : List UInt8) (ps : List (List UInt8)) (w : World) (h : LogAt w E S gl gd lv ev ps ps) (hd : DiskAt w B gd v bs s) (hn : ps.length ≤ 1000000) (t : Nat) (htn : t ≤ ps.length) (hlo : ∀ i, i < t → (endsL 0 ps).getD i 0 ≤ s) (hhi : t < ps.length → s < (endsL 0 ps).getD t 0) (hs : ∀ i, i < ps.length → (endsL 0 ps).getD i 0 ≤ 1000000000) :
    Calls Tryd.prog 60 #[.pointer (some ⟨gl, 0, none⟩)] w (RetQ w (.int .i64 (t : Int))) := by
  have hc0 := h.c0
  have hc2 := h.c2
  obtain ⟨aV, cV, eV, hcap, hnone, hat⟩ := ownsRow_shape h.ends
  rw [eV] at hc2
  have hcall : ∀ nn : Nat, Calls Tryd.prog 98 #[.pointer (some ⟨gd, 0, none⟩)] (w.drewN nn) (RetQ (w.drewN nn) (.int .i64 (s : Int))) := fun nn => (synced_any B gd s v bs (w.drewN nn) (hd.keep (below_drewN (Below.refl _ _) _))).mono fun e w' he => ⟨he.1, 0, he.2⟩
  have HC := Lib.hid hcall; have HAT := Lib.hid hat; have HNONE := Lib.hid hnone; have HLO := Lib.hid hlo; have HHI := Lib.hid hhi; have HS := Lib.hid hs
  have hsb : s ≤ 262144 := Nat.le_trans hd.syn hd.max
  clear h hd hat hnone eV hcall hlo hhi hs
  obtain ⟨n, hn'⟩ : ∃ n, n = ps.length := ⟨_, rfl⟩
  rw [← hn'] at hc2 hn htn hcap
  have HN := Lib.hid hn'
  clear hn'
  go_enter Tryd.func60, Tryd.ntmps60
  go_wp2
  go_loopw [3] (fun i wr => ∃ k nq : Nat, k ≤ t ∧ i = .int .i64 k ∧ wr = w.drewN nq) (fun i _ => n - (intOf i).toNat)
  case atStart => exact ⟨0, 0, Nat.zero_le _, rfl, rfl⟩
  case round =>
    obtain ⟨k, nq, hk, rfl, rfl⟩ := hrel
    by_cases hlt : k < n
    · cases aV with
      | none => have := (HNONE.out rfl).1; have := HN.out; omega
      | some a =>
        obtain ⟨g, rfl, cur, hg, hcell⟩ := HAT.out a rfl
        have hx : w.cell? ⟨g, k, none⟩ = some (.int .i64 (((endsL 0 ps).getD k 0 : Nat) : Int)) := hcell k _ (by
          rw [List.getElem?_map, List.getD_eq_getElem?_getD]
          have : k < (endsL 0 ps).length := by rw [endsL_length, ← HN.out]; exact hlt
          rw [List.getElem?_eq_getElem this]; rfl)
        have hxs := HS.out k (by have := HN.out; omega)
        have hxl : k < t → (endsL 0 ps).getD k 0 ≤ s := HLO.out k
        have hxh : k = t → s < (endsL 0 ps).getD k 0 := fun e => by have := HHI.out (by have := HN.out; omega); rw [e]; exact this
        obtain ⟨x, hxd⟩ : ∃ x, x = (endsL 0 ps).getD k 0 := ⟨_, rfl⟩
        rw [← hxd] at hx hxs hxl hxh
        clear hxd hcell hg
        by_cases hkt : k < t
        · have hle := hxl hkt
          clear hxl hxh
          go_wp2
          go_quiet ((go_at_call 98; exact quiet_Q2 (HC.out _)))
          go_wp2
          go_roundw
          case rel => exact ⟨k + 1, _, by omega, by go_num, rfl⟩
          case measure => simp [intOf]; omega
        · obtain rfl : k = t := by omega
          have hgt := hxh rfl
          clear hxl hxh
          go_wp2
          go_quiet ((go_at_call 98; exact quiet_Q2 (HC.out _)))
          go_wp2
          go_ret
          exact ⟨rfl, _, drewN_two _ _ _⟩
    · obtain rfl : k = n := by omega
      obtain rfl : k = t := by omega
      go_wp2
      go_quiet ((go_at_call 98; exact quiet_Q2 (HC.out _)))
      go_wp2
      go_ret
      exact ⟨rfl, _, drewN_two _ _ _⟩
end Go.Proofs.YtoophonmonojcaaDoor
