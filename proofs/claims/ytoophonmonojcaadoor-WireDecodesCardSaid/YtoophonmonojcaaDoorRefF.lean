/- Contract of jotterref06.read. -/
import Derived.Test.YtoophonmonojcaaDoorGRef3
namespace Go.Proofs.YtoophonmonojcaaDoor
open Go.RowKit

theorem one_of_drop (q : List UInt8) (k : Nat) (h : k + 1 ≤ q.length) : num ((q.drop k).take 1) = (q.getD k 0).toNat := by
  have e : (q.drop k).take 1 = [q.getD k 0] := by
    apply List.ext_getElem?
    intro i
    match i with
    | 0 => simp [List.getD_eq_getElem?_getD, List.getElem?_eq_getElem (show k < q.length by omega)]
    | i + 1 => simp only [List.getElem?_take, List.getElem?_cons_succ, List.getElem?_nil]; rw [if_neg (by omega)]
  rw [e, num_one]
/-- What read answers. -/
def ReadPost (w : World) (b : List UInt8) (l : List Nat) (kind : Int) (own : Bool) (e : Ending) (w' : World) : Prop :=
  (badI b l own = none ∧ e = .returned (.tuple #[.agg (readM b l kind).cs, .int .i64 0, .int .i64 0]) ∧ Below w.heap.size w w') ∨
  (∃ j f : Nat, badI b l own = some j ∧ 1 ≤ f ∧ e = .returned (.tuple #[.agg (readM b l kind).cs, .int .i64 f, .int .i64 (posI l j : Nat)]) ∧ Below w.heap.size w w')
theorem results_cell_two {fn : Func} {p u v : Tmp} {ty : TypeId} (h : fn.results = #[.cell p ty, .tmp u, .tmp v]) (tmps : Array Value) (w : World) (g : Nat) (t : TypeId) (cs : Array Value) (fr : Nat × Nat) (d : TypeDesc)
    (hp : tmps.getD p undef = .pointer (some ⟨g, 0, none⟩)) (hg : w.heap[g]? = some (.cells cs t fr)) (hu : Tryd.prog.underlying ty = some d) (hd : (match d with | .struct _ | .array _ _ => true | _ => false) = true) (hi : (Tryd.prog.info? ty).map (·.size) = some cs.size)
    (x y : Value) (hx : tmps.getD u undef = x) (hy : tmps.getD v undef = y) : (results fn tmps).run Tryd.prog w = .ok (.tuple #[.agg cs, x, y]) w := by
  have hl : (loadVar ty ⟨g, 0, none⟩).run Tryd.prog w = .ok (.agg cs) w := run_loadVar_row w g t ty cs fr d hg hu (by cases d <;> simp_all) hi
  have hp' : tmps[p]?.getD undef = .pointer (some ⟨g, 0, none⟩) := by rw [← hp]; simp
  have hx' : tmps[u]?.getD undef = x := by rw [← hx]; simp
  have hy' : tmps[v]?.getD undef = y := by rw [← hy]; simp
  simp [results, h, hp', hx', hy', hl, asAddr, Result.andThen]
theorem ret_msg3 {fn : Func} {p u v : Tmp} (h : fn.results = #[.cell p 25, .tmp u, .tmp v]) {R : Ending → World → Prop} {a : Act} {w : World} (hd : a.defers = []) (g : Nat) (m : M) (x y : Value) (hp : a.tmps.getD p undef = .pointer (some ⟨g, 0, none⟩)) (hg : MsgAt w g m) (hx : a.tmps.getD u undef = x) (hy : a.tmps.getD v undef = y)
    (hR : R (.returned (.tuple #[.agg m.cs, x, y])) w) : bodyPost Tryd.prog fn R .ret a w :=
  bodyPost_ret (results_cell_two h _ w g 25 m.cs (0, 0) _ hp hg Tryd.underlying25 rfl infoMsg x y hx hy) hd hR
/-- A message stored cell by cell. -/
theorem storeMsg14 {W : World} {g : Nat} {m m' : M} (h : MsgAt W g m) (a0 a1 a2 a3 a4 a5 a6 a7 a8 a9 a10 a11 a12 a13 : Value) (hv : #[a0, a1, a2, a3, a4, a5, a6, a7, a8, a9, a10, a11, a12, a13] = m'.cs) (h1 : ∀ v ∈ [a0, a1, a2, a3, a4, a5, a6, a7, a8, a9, a10, a11, a12, a13], v.oneCell' = true) {B : Nat} {w1 : World} (hb : B ≤ g) (hB : Below B w1 W) :
    MsgAt (((((((((((((((W.setCell ⟨g, 0, none⟩ a0).setCell ⟨g, 1, none⟩ a1).setCell ⟨g, 2, none⟩ a2).setCell ⟨g, 3, none⟩ a3).setCell ⟨g, 4, none⟩ a4).setCell ⟨g, 5, none⟩ a5).setCell ⟨g, 6, none⟩ a6).setCell ⟨g, 7, none⟩ a7).setCell ⟨g, 8, none⟩ a8).setCell ⟨g, 9, none⟩ a9).setCell ⟨g, 10, none⟩ a10).setCell ⟨g, 11, none⟩ a11).setCell ⟨g, 12, none⟩ a12).setCell ⟨g, 13, none⟩ a13)) g m' ∧ Below B w1 (((((((((((((((W.setCell ⟨g, 0, none⟩ a0).setCell ⟨g, 1, none⟩ a1).setCell ⟨g, 2, none⟩ a2).setCell ⟨g, 3, none⟩ a3).setCell ⟨g, 4, none⟩ a4).setCell ⟨g, 5, none⟩ a5).setCell ⟨g, 6, none⟩ a6).setCell ⟨g, 7, none⟩ a7).setCell ⟨g, 8, none⟩ a8).setCell ⟨g, 9, none⟩ a9).setCell ⟨g, 10, none⟩ a10).setCell ⟨g, 11, none⟩ a11).setCell ⟨g, 12, none⟩ a12).setCell ⟨g, 13, none⟩ a13)) := by
  have hfin := storeMsgCells (m' := m') h [a0, a1, a2, a3, a4, a5, a6, a7, a8, a9, a10, a11, a12, a13] hv h1 hb hB
  have e : W.setCells g 0 [a0, a1, a2, a3, a4, a5, a6, a7, a8, a9, a10, a11, a12, a13] = ((((((((((((((W.setCell ⟨g, 0, none⟩ a0).setCell ⟨g, 1, none⟩ a1).setCell ⟨g, 2, none⟩ a2).setCell ⟨g, 3, none⟩ a3).setCell ⟨g, 4, none⟩ a4).setCell ⟨g, 5, none⟩ a5).setCell ⟨g, 6, none⟩ a6).setCell ⟨g, 7, none⟩ a7).setCell ⟨g, 8, none⟩ a8).setCell ⟨g, 9, none⟩ a9).setCell ⟨g, 10, none⟩ a10).setCell ⟨g, 11, none⟩ a11).setCell ⟨g, 12, none⟩ a12).setCell ⟨g, 13, none⟩ a13) := by simp only [World.setCells, Nat.zero_add, Nat.reduceAdd]
  rw [e] at hfin
  exact hfin

set_option maxRecDepth 100000 in
set_option maxHeartbeats 4000000 in
theorem refRead_any (kind : Int) (own : Bool) (ao : Option Addr) (n cap : Nat) (l : List Nat) (ab : Option Addr) (nb capb : Nat) (b : List UInt8) (w : World) (hl : l.length = n) (hr : RdN w ao l) (hlb : b.length = nb) (hrb : Rd w ab b) (hlong : b.length = longOf l) (hord : Ord l own) (hn : n ≤ 14) (hk : own = true ↔ kind = 2) (hch : 0 ≤ (readM b l kind).op.ch ∧ (readM b l kind).op.ch ≤ 255) :
    Calls Tryd.prog 95 #[.int .i64 kind, .slice ao n cap, .slice ab nb capb, .int .i64 1] w (ReadPost w b l kind own) := by
  have hpost0 : badI b l own = none → ∀ w', Below w.heap.size w w' → ReadPost w b l kind own (.returned (.tuple #[.agg (readM b l kind).cs, .int .i64 0, .int .i64 0])) w' := fun h w' hb => .inl ⟨h, rfl, hb⟩
  have hpost1 : ∀ j f : Nat, badI b l own = some j → 1 ≤ f → ∀ w', Below w.heap.size w w' → ReadPost w b l kind own (.returned (.tuple #[.agg (readM b l kind).cs, .int .i64 f, .int .i64 (posI l j : Nat)])) w' := fun j f h hf w' hb => .inr ⟨j, f, h, hf, rfl, hb⟩
  obtain ⟨RP, hRP⟩ : ∃ RP, RP = ReadPost w b l kind own := ⟨_, rfl⟩
  rw [← hRP] at hpost0 hpost1 ⊢
  have hfind := refFind_eq b l kind own hord hk
  have hread : ∀ i, i < n → readB b l (l.getD i 0) = ((num ((b.drop (posI l i)).take (sizeL.getD (l.getD i 0) 0)) : Nat) : Int) := fun i hi => readB_at b l own hord i (by omega)
  have hff : ∀ f ∈ l, 1 ≤ f ∧ f < 14 := hord.2.2
  have hbn : nb ≤ 1 + 2 * n := by have := posI_bound l n (fun f hf => (hff f hf).2); rw [← hl, posI_all] at this; omega
  have HL := Lib.hid hl; have HR := Lib.hid hr; have HLB := Lib.hid hlb; have HRB := Lib.hid hrb; have HLONG := Lib.hid hlong; have HF := Lib.hid hff; have HREAD := Lib.hid hread; have HFIND := Lib.hid hfind; have HP0 := Lib.hid hpost0; have HP1 := Lib.hid hpost1; have HCH := Lib.hid hch
  clear hch hl hr hlb hrb hlong hord hk hRP hpost0 hpost1 hfind hread hff
  have hb0 := below2 w (.cells zeroM.cs 25) (.cells (cutM b l kind 0).cs 25)
  have hz0 : MsgAt ((w.alloc (.cells zeroM.cs 25)).alloc (.cells (cutM b l kind 0).cs 25)) w.heap.size zeroM := heap_one _ _ _
  have hm0 : MsgAt ((w.alloc (.cells zeroM.cs 25)).alloc (.cells (cutM b l kind 0).cs 25)) (w.heap.size + 1) (cutM b l kind 0) := heap_two _ _ _
  have HB0 := Lib.hid hb0; have HZ0 := Lib.hid hz0; have HM0 := Lib.hid hm0
  have e0 := cutM_zero b l kind
  rw [e0] at HB0 HZ0
  have HM0' : Hid (MsgAt ((w.alloc (.cells zeroM.cs 25)).alloc (.cells (M.mk kind 0 0 0 0 0 0 0 0 zeroO).cs 25)) (w.heap.size + 1) (cutM b l kind 0)) := by have := HM0.out; rw [e0] at this ⊢; exact this
  simp only [M.cs, zeroM, zeroO] at HB0 HZ0 HM0'
  clear hb0 hz0 hm0 e0 HM0
  go_enter Tryd.func95, Tryd.ntmps95
  go_wp2_with fail
  generalize (w.alloc (.cells #[Value.int .i64 0, .int .i64 0, .int .i64 0, .int .i64 0, .int .i64 0, .int .i64 0, .int .i64 0, .int .i64 0, .int .i64 0, .int .i64 0, .int .i64 0, .int .u8 0, .int .i64 0, .int .i64 0] 25)).alloc (.cells #[Value.int .i64 kind, .int .i64 0, .int .i64 0, .int .i64 0, .int .i64 0, .int .i64 0, .int .i64 0, .int .i64 0, .int .i64 0, .int .i64 0, .int .i64 0, .int .u8 0, .int .i64 0, .int .i64 0] 25) = w0 at HB0 HZ0 HM0' ⊢
  go_loopw [12, 13] (fun p i wr => ∃ k : Nat, k ≤ n ∧ i = .int .i64 k ∧ p = .int .i64 (posI l k : Nat) ∧ MsgAt wr (w.heap.size + 1) (cutM b l kind k) ∧ Below (w.heap.size + 1) w0 wr) (fun _ i _ => n - (intOf i).toNat)
  case atStart => exact ⟨0, Nat.zero_le _, rfl, rfl, HM0'.out, Below.refl _ _⟩
  case round =>
    obtain ⟨k, hk, rfl, rfl, hm, hbel⟩ := hrel
    have HMK := Lib.hid hm; have HBEL := Lib.hid hbel
    have HB1 := Lib.hid (HB0.out.trans (hbel.mono (by omega)))
    clear hm hbel
    by_cases hlt : k < n
    · obtain ⟨bl, off, rfl, hbw, hc⟩ := HR.out.some (by have := HL.out; omega)
      have hkl : k < l.length := by have := HL.out; omega
      have hck := (HB1.out.cell (p := ⟨bl, off + k, none⟩) hbw).trans (hc k hkl)
      have hck0 := hc k hkl
      have hq1 := HF.out (l.getD k 0) (by rw [List.getD_eq_getElem?_getD, List.getElem?_eq_getElem hkl]; exact List.getElem_mem _)
      have hps := posI_succ l k hkl
      have hpl := posI_le l (k + 1)
      have hrd := HREAD.out k hlt
      have hcs := fun v => cutM_succ b l kind k hkl hq1.1 v
      obtain ⟨q, hq⟩ : ∃ q, q = l.getD k 0 := ⟨_, rfl⟩
      rw [← hq] at hck hck0 hq1 hps hrd hcs
      have HCK0 := Lib.hid hck0
      clear hck0
      rw [← HLONG.out, HLB.out] at hpl
      have hp1 : 1 ≤ posI l k := by unfold posI; omega
      obtain ⟨p, hp⟩ : ∃ p, p = posI l k := ⟨_, rfl⟩
      obtain ⟨p2, hp2⟩ : ∃ p2, p2 = posI l (k + 1) := ⟨_, rfl⟩
      rw [← hp] at hps hrd hp1 ⊢
      rw [← hp2] at hps hpl
      have HP2 := Lib.hid hp2
      obtain ⟨z, hz⟩ : ∃ z, z = readB b l q := ⟨_, rfl⟩
      have hcs' := hcs z hz
      rw [← hz] at hrd
      obtain ⟨bb, offb, rfl, hbbw, hcb⟩ := HRB.out.some (by have := HLB.out; omega)
      obtain ⟨m1, hm1⟩ : ∃ m1, m1 = cutM b l kind k := ⟨_, rfl⟩
      obtain ⟨m2, hm2⟩ : ∃ m2, m2 = cutM b l kind (k + 1) := ⟨_, rfl⟩
      rw [← hm1] at hcs' HMK
      rw [← hm2] at hcs'
      have HM2 := Lib.hid hm2
      clear hcs hp hp2 hz hm1 hm2 hq hc hkl
      have hs12 := size_le q hq1.2
      have hsz : sizeL.getD q 0 = 1 ∨ (sizeL.getD q 0 = 2 ∧ q ≠ 11) := by
        rcases hs12 with h | h
        · exact .inl h
        · refine .inr ⟨h, ?_⟩
          rintro rfl
          cases h
      have hput : ∀ (X : World), (q = 11 → 0 ≤ z ∧ z ≤ 255) → Calls Tryd.prog 127 #[.agg m1.cs, .int .i64 q, .int .i64 z] X (RetV X (.agg m2.cs)) := fun X hv => by
        have := put_any m1 q z X hq1.1 hq1.2 hv
        rwa [hcs'] at this
      clear hs12 hcs'
      obtain ⟨k0, k1, k2, k3, k4, k5, k6, k7, k8, ⟨k9, k10, k11, k12, k13⟩⟩ := m1
      obtain ⟨j0, j1, j2, j3, j4, j5, j6, j7, j8, ⟨j9, j10, j11, j12, j13⟩⟩ := m2
      simp only [M.cs] at hput
      have HPUT := Lib.hid hput
      clear hput
      rcases hsz with s1 | ⟨s2, hne⟩
      · rw [s1] at hps hrd
        rw [one_of_drop b p (by have := HLB.out; omega)] at hrd
        have hx := (HB1.out.cell (p := ⟨bb, offb + p, none⟩) hbbw).trans (hcb p (by have := HLB.out; omega))
        obtain ⟨x, hxx⟩ : ∃ x, x = b.getD p 0 := ⟨_, rfl⟩
        rw [← hxx] at hx hrd
        have hxl := x.toNat_lt
        have hpn : p < nb := by omega
        have HRD := Lib.hid hrd; have HPS := Lib.hid hps; have HS1 := Lib.hid s1
        clear hrd hps s1 hxx hcb
        have hms : MQ wr (w.heap.size + 1) k0 k1 k2 k3 k4 k5 k6 k7 k8 k9 k10 k11 k12 k13 bl (off + k) q := ⟨msg_cells14 HMK.out, hck⟩
        go_wp2_with fail
        refine (wide_any q _ hq1.1 hq1.2).mono ?_
        rintro e w2 ⟨rfl, rfl⟩
        rw [HS1.out]
        go_wp2_with fail
        rw [← HRD.out]
        obtain ⟨⟨z0, z1, z2, z3, z4, z5, z6, z7, z8, z9, z10, z11, z12, z13⟩, zq⟩ := hms
        go_region_with ((with_reducible refine (HPUT.out _ (fun _ => by rw [HRD.out]; omega)).mono ?_); rintro e w' ⟨rfl, hb2⟩; have HMW := Lib.hid (HMK.out.keep (w' := w') (below_src hb2)); have HBW := Lib.hid (below_src hb2); obtain ⟨y0, y1, y2, y3, y4, y5, y6, y7, y8, y9, y10, y11, y12, y13⟩ := msg_cells14 HMW.out; have hzf := HMW.out.frozen)
        all_goals
          have hst := storeMsg14 (m' := ⟨j0, j1, j2, j3, j4, j5, j6, j7, j8, ⟨j9, j10, j11, j12, j13⟩⟩) HMW.out (.int .i64 j0) (.int .i64 j1) (.int .i64 j2) (.int .i64 j3) (.int .i64 j4) (.int .i64 j5) (.int .i64 j6) (.int .i64 j7) (.int .i64 j8) (.int .i64 j9) (.int .i64 j10) (.int .u8 j11) (.int .i64 j12) (.int .i64 j13) rfl (by simp [Value.oneCell']) (Nat.le_refl _) (HBEL.out.trans (HBW.out.mono (Nat.le_of_lt HMK.out.lt)))
          obtain ⟨hst1, hst2⟩ := hst
          clear y0 y1 y2 y3 y4 y5 y6 y7 y8 y9 y10 y11 y12 y13 hzf hb2 z0 z1 z2 z3 z4 z5 z6 z7 z8 z9 z10 z11 z12 z13 zq hx hck
          revert hst1 hst2
          generalize World.setCell _ _ _ = w5
          intro hst1 hst2
          have HS51 := Lib.hid hst1; have HS52 := Lib.hid hst2
          have hck := (hst2.cell (p := ⟨bl, off + k, none⟩) (by show bl < _; omega)).trans ((HB0.out.cell (p := ⟨bl, off + k, none⟩) hbw).trans HCK0.out)
          clear hst1 hst2
          go_wp2_with fail
          refine (wide_any q _ hq1.1 hq1.2).mono ?_
          rintro e w2 ⟨rfl, rfl⟩
          rw [HS1.out]
          go_wp2_with fail
          go_roundw
          case rel => exact ⟨k + 1, by omega, by go_num, by rw [← HP2.out, HPS.out]; go_num, by rw [← HM2.out]; exact HS51.out, HS52.out⟩
          case measure => simp [intOf]; omega
      · rw [s2] at hps hrd
        rw [two_of_drop b p (by have := HLB.out; omega)] at hrd
        have hx := (HB1.out.cell (p := ⟨bb, offb + p, none⟩) hbbw).trans (hcb p (by have := HLB.out; omega))
        have hy := (HB1.out.cell (p := ⟨bb, offb + (p + 1), none⟩) hbbw).trans (hcb (p + 1) (by have := HLB.out; omega))
        obtain ⟨x, hxx⟩ : ∃ x, x = b.getD p 0 := ⟨_, rfl⟩
        obtain ⟨y, hyy⟩ : ∃ y, y = b.getD (p + 1) 0 := ⟨_, rfl⟩
        rw [← hxx] at hx hrd
        rw [← hyy] at hy hrd
        have hxl := x.toNat_lt
        have hyl := y.toNat_lt
        have hpn : p + 1 < nb := by omega
        have HRD := Lib.hid hrd; have HPS := Lib.hid hps; have HS1 := Lib.hid s2
        clear hrd hps s2 hxx hyy hcb
        have hms : MQ wr (w.heap.size + 1) k0 k1 k2 k3 k4 k5 k6 k7 k8 k9 k10 k11 k12 k13 bl (off + k) q := ⟨msg_cells14 HMK.out, hck⟩
        go_wp2_with fail
        refine (wide_any q _ hq1.1 hq1.2).mono ?_
        rintro e w2 ⟨rfl, rfl⟩
        rw [HS1.out]
        go_wp2_with fail
        rw [show 256 * (x.toNat : Int) + (y.toNat : Int) = z from by rw [HRD.out]; omega]
        obtain ⟨⟨z0, z1, z2, z3, z4, z5, z6, z7, z8, z9, z10, z11, z12, z13⟩, zq⟩ := hms
        go_region_with ((with_reducible refine (HPUT.out _ (fun h => absurd h hne)).mono ?_); rintro e w' ⟨rfl, hb2⟩; have HMW := Lib.hid (HMK.out.keep (w' := w') (below_src hb2)); have HBW := Lib.hid (below_src hb2); obtain ⟨y0, y1, y2, y3, y4, y5, y6, y7, y8, y9, y10, y11, y12, y13⟩ := msg_cells14 HMW.out; have hzf := HMW.out.frozen)
        all_goals
          have hst := storeMsg14 (m' := ⟨j0, j1, j2, j3, j4, j5, j6, j7, j8, ⟨j9, j10, j11, j12, j13⟩⟩) HMW.out (.int .i64 j0) (.int .i64 j1) (.int .i64 j2) (.int .i64 j3) (.int .i64 j4) (.int .i64 j5) (.int .i64 j6) (.int .i64 j7) (.int .i64 j8) (.int .i64 j9) (.int .i64 j10) (.int .u8 j11) (.int .i64 j12) (.int .i64 j13) rfl (by simp [Value.oneCell']) (Nat.le_refl _) (HBEL.out.trans (HBW.out.mono (Nat.le_of_lt HMK.out.lt)))
          obtain ⟨hst1, hst2⟩ := hst
          clear y0 y1 y2 y3 y4 y5 y6 y7 y8 y9 y10 y11 y12 y13 hzf hb2 z0 z1 z2 z3 z4 z5 z6 z7 z8 z9 z10 z11 z12 z13 zq hx hy hck
          revert hst1 hst2
          generalize World.setCell _ _ _ = w5
          intro hst1 hst2
          have HS51 := Lib.hid hst1; have HS52 := Lib.hid hst2
          have hck := (hst2.cell (p := ⟨bl, off + k, none⟩) (by show bl < _; omega)).trans ((HB0.out.cell (p := ⟨bl, off + k, none⟩) hbw).trans HCK0.out)
          clear hst1 hst2
          go_wp2_with fail
          refine (wide_any q _ hq1.1 hq1.2).mono ?_
          rintro e w2 ⟨rfl, rfl⟩
          rw [HS1.out]
          go_wp2_with fail
          go_roundw
          case rel => exact ⟨k + 1, by omega, by go_num, by rw [← HP2.out, HPS.out]; go_num, by rw [← HM2.out]; exact HS51.out, HS52.out⟩
          case measure => simp [intOf]; omega
    · obtain rfl : k = n := by omega
      have hall := cutM_all b l kind
      rw [HL.out] at hall
      rw [hall] at HMK
      clear hall
      have hmch : 0 ≤ (readM b l kind).op.ch ∧ (readM b l kind).op.ch ≤ 255 := HCH.out
      have hhold : ∀ f : Nat, 1 ≤ f → f < 14 → ∀ w, Calls Tryd.prog 91 #[.agg (readM b l kind).cs, .int .i64 f] w (RetV w (.bool (refHolds (readM b l kind) f))) := fun f h1 h2 w => holds_any _ f w h1 h2 hmch
      have hsome : ∀ j, j < k → refHolds (readM b l kind) (l.getD j 0) = false → (∀ i, i < j → refHolds (readM b l kind) (l.getD i 0) = true) → badI b l own = some j := by
        intro j hj h1 h2
        rw [← HFIND.out]
        unfold refFind
        rw [List.find?_range_eq_some]
        exact ⟨by rw [h1]; rfl, List.mem_range.2 (by rw [HL.out]; exact hj), fun i hi => by rw [h2 i hi]; rfl⟩
      have hnone : (∀ i, i < k → refHolds (readM b l kind) (l.getD i 0) = true) → badI b l own = none := by
        intro h
        rw [← HFIND.out]
        unfold refFind
        rw [List.find?_range_eq_none]
        intro i hi
        rw [h i (by rw [HL.out] at hi; exact hi)]
        rfl
      have HZ1 := Lib.hid (HZ0.out.below HBEL.out (by omega))
      obtain ⟨H, hH⟩ : ∃ H, H = refHolds (readM b l kind) := ⟨_, rfl⟩
      rw [← hH] at hhold hsome hnone
      obtain ⟨RM, hRM⟩ : ∃ RM, RM = readM b l kind := ⟨_, rfl⟩
      rw [← hRM] at hhold HMK HP0 HP1
      clear hH hRM hmch
      obtain ⟨k0, k1, k2, k3, k4, k5, k6, k7, k8, ⟨k9, k10, k11, k12, k13⟩⟩ := RM
      simp only [M.cs] at hhold
      have HHOLD := Lib.hid hhold; have HSOME := Lib.hid hsome; have HNONE := Lib.hid hnone
      clear hhold hsome hnone
      go_wp2_with fail
      obtain ⟨wo, rfl⟩ : ∃ wo : World, wo = wr := ⟨_, rfl⟩
      go_loopw [12, 15] (fun p i wr => ∃ j : Nat, j ≤ k ∧ i = .int .i64 j ∧ p = .int .i64 (posI l j : Nat) ∧ Below wo.heap.size wo wr ∧ Hid (∀ i, i < j → H (l.getD i 0) = true)) (fun _ i _ => k - (intOf i).toNat)
      case atStart => exact ⟨0, Nat.zero_le _, rfl, rfl, Below.refl _ _, fun i hi => by omega⟩
      case round =>
        obtain ⟨j, hj, rfl, rfl, hbel, hgd⟩ := hrel
        have HBEL2 := Lib.hid hbel; have HM2 := Lib.hid (HMK.out.keep hbel); have HZ2 := Lib.hid (HZ1.out.keep hbel)
        have HB2 := Lib.hid (HB1.out.trans (hbel.mono HB1.out.size))
        clear hbel
        by_cases hlt2 : j < k
        · obtain ⟨bl, off, rfl, hbw, hc⟩ := HR.out.some (by have := HL.out; omega)
          have hkl : j < l.length := by have := HL.out; omega
          have hck := (HB2.out.cell (p := ⟨bl, off + j, none⟩) hbw).trans (hc j hkl)
          have hq1 := HF.out (l.getD j 0) (by rw [List.getD_eq_getElem?_getD, List.getElem?_eq_getElem hkl]; exact List.getElem_mem _)
          have hps := posI_succ l j hkl
          have hpl := posI_le l (j + 1)
          have hsm := fun h => HSOME.out j hlt2 h hgd.out
          have HC := Lib.hid hc
          obtain ⟨q, hq⟩ : ∃ q, q = l.getD j 0 := ⟨_, rfl⟩
          rw [← hq] at hck hq1 hps hsm
          rw [← HLONG.out, HLB.out] at hpl
          obtain ⟨p, hp⟩ : ∃ p, p = posI l j := ⟨_, rfl⟩
          obtain ⟨p2, hp2⟩ : ∃ p2, p2 = posI l (j + 1) := ⟨_, rfl⟩
          rw [← hp] at hps ⊢
          rw [← hp2] at hps hpl
          have HP := Lib.hid hp; have HP2 := Lib.hid hp2; have HQ := Lib.hid hq; have HPS := Lib.hid hps; have HSM := Lib.hid hsm
          clear hc hp hp2 hq hps hsm hkl
          have hpn : p ≤ nb := by have := HPS.out; omega
          have hms : MQ wr (w.heap.size + 1) k0 k1 k2 k3 k4 k5 k6 k7 k8 k9 k10 k11 k12 k13 bl (off + j) q := ⟨msg_cells14 HM2.out, hck⟩
          go_wp2_with fail
          go_region_held3 (fun w' => MQ w' (w.heap.size + 1) k0 k1 k2 k3 k4 k5 k6 k7 k8 k9 k10 k11 k12 k13 bl (off + j) q) (with_reducible first | exact hms | exact mqDrew hms)
            (first
             | ((with_reducible refine (HHOLD.out _ hq1.1 hq1.2 _).mono ?_); rintro e w' ⟨rfl, hb2⟩; have hms := mqTail hms hb2 rfl; have HBW := Lib.hid (below_src hb2)))
          have HM3 := Lib.hid (HM2.out.keep (w' := w') HBW.out); have HZ3 := Lib.hid (HZ2.out.keep (w' := w') HBW.out)
          have HB3 := Lib.hid (HB2.out.trans (HBW.out.mono HB2.out.size)); have HBEL3 := Lib.hid (HBEL2.out.trans (HBW.out.mono HBEL2.out.size))
          cases hh : H q
          · have HBD := Lib.hid (HSM.out hh)
            clear hh
            obtain ⟨⟨z0, z1, z2, z3, z4, z5, z6, z7, z8, z9, z10, z11, z12, z13⟩, zq⟩ := hms
            obtain ⟨y0, y1, y2, y3, y4, y5, y6, y7, y8, y9, y10, y11, y12, y13⟩ := msg_cells14 HZ3.out
            have hzf := HZ3.out.frozen
            go_wp2_with fail
            go_region_with (fail)
            all_goals
              have hst := storeMsg14 (m' := ⟨k0, k1, k2, k3, k4, k5, k6, k7, k8, ⟨k9, k10, k11, k12, k13⟩⟩) HZ3.out (.int .i64 k0) (.int .i64 k1) (.int .i64 k2) (.int .i64 k3) (.int .i64 k4) (.int .i64 k5) (.int .i64 k6) (.int .i64 k7) (.int .i64 k8) (.int .i64 k9) (.int .i64 k10) (.int .u8 k11) (.int .i64 k12) (.int .i64 k13) rfl (by simp [Value.oneCell']) (Nat.le_refl _) HB3.out
              obtain ⟨hst1, hst2⟩ := hst
              clear y0 y1 y2 y3 y4 y5 y6 y7 y8 y9 y10 y11 y12 y13 hzf z0 z1 z2 z3 z4 z5 z6 z7 z8 z9 z10 z11 z12 z13 zq hck
              revert hst1 hst2
              generalize World.setCell _ _ _ = w5
              intro hst1 hst2
              have hrp := HP1.out j q HBD.out hq1.1 w5.drew hst2.drew
              rw [← HP.out] at hrp
              have HRPP := Lib.hid hrp; have HS51 := Lib.hid hst1
              clear hst1 hst2 hrp
              go_wp2_with fail
              exact ret_msg3 rfl rfl w.heap.size _ (.int .i64 q) (.int .i64 p) rfl HS51.out rfl rfl HRPP.out
          · have HBD := Lib.hid hh
            have hck3 := hms.2
            have hsz := size_le q hq1.2
            obtain ⟨sz, hszd⟩ : ∃ sz, sz = sizeL.getD q 0 := ⟨_, rfl⟩
            rw [← hszd] at HPS hsz
            have hsz2 : sz ≤ 2 := by omega
            have HSZ := Lib.hid hszd
            clear hh hms hsz hszd hck
            go_wp2_with fail
            refine (wide_any q _ hq1.1 hq1.2).mono ?_
            rintro e w2 ⟨rfl, rfl⟩
            rw [← HSZ.out]
            go_wp2_with fail
            go_roundw
            case rel =>
              refine ⟨j + 1, by omega, by go_num, by rw [← HP2.out, HPS.out]; go_num, HBEL3.out, ?_⟩
              intro i hi
              rcases Nat.lt_or_ge i j with h | h
              · exact hgd.out i h
              · obtain rfl : i = j := by omega
                rw [← HQ.out]; exact HBD.out
            case measure => simp [intOf]; omega
        · obtain rfl : j = k := by omega
          have HRPP := Lib.hid (HP0.out (HNONE.out hgd.out))
          go_wp2_with (first
            | (with_reducible refine wpList_loadMsg rfl (.tmp 11) rfl (w.heap.size + 1) _ rfl HM2.out ?_)
            | ((with_reducible refine wpList_storeMsg2 rfl (.tmp 8) (.tmp 86) rfl rfl w.heap.size _ ⟨k0, k1, k2, k3, k4, k5, k6, k7, k8, ⟨k9, k10, k11, k12, k13⟩⟩ rfl rfl HZ2.out ?_); intro w5 hm5 ht5 ho5; have HM5 := Lib.hid hm5; have HB5 := Lib.hid (ht5 _ _ (Nat.le_refl _) HB2.out); clear hm5 ht5 ho5))
          exact ret_msg3 rfl rfl w.heap.size _ (.int .i64 0) (.int .i64 0) rfl HM5.out rfl rfl (HRPP.out _ HB5.out)
end Go.Proofs.YtoophonmonojcaaDoor
