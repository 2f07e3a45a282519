/- Contracts of disk: From, Bytes, Size, Synced, Sync, Cut, Append. -/
import Derived.Test.YtoophonmonojcaaDoorShelfW
namespace Go.Proofs.YtoophonmonojcaaDoor
open Go.RowKit

theorem wpList_appendO {ops : Array Oper} {rest : List Oper} {o : Oper} {a : Act} {w : World} {Q : Exit → Act → World → Prop} (hgd : o.guard = none) (s x : Operand)
    (ho : o.op = .call { callee := .builtin .append, args := #[s, x], argTypes := #[27, 27] })
    (B : Nat) (v : Value) (l m : List UInt8) (hs : a.eval s = v) (hown : Own w B v l) (ao : Option Addr) (n2 c2 : Nat) (hx : a.eval x = .slice ao n2 c2) (hnil : ao = none → c2 = 0) (hm : m.length = n2) (hr : Rd w ao m)
    (hle : l.length + n2 ≤ 140737488355328) (hB : B ≤ w.heap.size) (N : Nat) (hN : N = l.length + n2)
    (h : ∀ a' c' w', Own w' B (.slice a' N c') (l ++ m) → w.grownBy w' v.ownBlock → ((Value.slice a' N c').ownBlock = v.ownBlock ∨ (Value.slice a' N c').ownBlock = some w.heap.size) → wpList Tryd.prog ops Q rest (a.put o.dst (.slice a' N c')) w') : wpList Tryd.prog ops Q (o :: rest) a w := by
  refine wpList_plain hgd fun _ hK => wp_appendB s x ho B v l m hs hown ao n2 c2 hx hnil hm hr hle hB fun v' w' h1 h2 h3 => ?_
  obtain ⟨a', c', rfl, -⟩ := h1.shape
  have e : (l ++ m).length = N := by simp; omega
  rw [e] at h1 h3 ⊢
  exact hK _ _ (h a' c' w' h1 h2 h3)
/-- copy of bytes over a whole row: no other block turns. -/
theorem wpList_copyRow {w : World} {ops : Array Oper} {rest : List Oper} {o : Oper} {a : Act} {Q : Exit → Act → World → Prop} (hgd : o.guard = none) (d s : Operand)
    (ho : o.op = .call { callee := .builtin .copy, args := #[d, s], argTypes := #[27, 27] }) (g n dCap : Nat) (sp : Option Addr) (sCap : Nat) (hd : a.eval d = .slice (some ⟨g, 0, none⟩) n dCap) (hs : a.eval s = .slice sp n sCap)
    (old l : List UInt8) (hold : Row w g old) (ho2 : old.length = n) (hl : l.length = n) (hr : Rd w sp l)
    (h : ∀ w', Row w' g l → w.grownBy w' (some g) → wpList Tryd.prog ops Q rest (a.put o.dst (.int .i64 (n : Int))) w') : wpList Tryd.prog ops Q (o :: rest) a w := by
  rcases Nat.eq_zero_or_pos n with h0 | h0
  · subst h0
    refine wpList_copy_nothing hgd d s 27 27 ho 5 Tryd.underlying27 Tryd.sizeU8 _ _ _ _ _ _ hd hs rfl ?_
    obtain rfl : l = [] := List.eq_nil_of_length_eq_zero hl
    obtain rfl : old = [] := List.eq_nil_of_length_eq_zero ho2
    exact h w hold (World.grownBy.refl _ _)
  · obtain ⟨b, off, rfl, _, hc⟩ := hr.some (by omega)
    refine wpList_copy_own hgd d s 27 27 ho 5 Tryd.underlying27 Tryd.sizeU8 g 0 n dCap ⟨b, off, none⟩ n sCap hd hs _ 5 hold (l.map bv) (by rw [List.length_map, hl]; exact (Nat.min_self n).symm) (bv_cells hc) (by simp; omega) (oneCell_bv l) ?_
    have e : (goInt (l.map bv).length) = .int .i64 (n : Int) := by rw [List.length_map, hl]; rfl
    rw [e]
    have e2 : ((old.map bv).toArray.toList.take 0 ++ (l.map bv ++ (old.map bv).toArray.toList.drop (0 + (l.map bv).length))).toArray = (l.map bv).toArray := by
      rw [List.drop_eq_nil_of_le (by simp; omega)]; simp
    rw [e2]
    refine h _ (setRow_heap w g _ _ 5 _ hold) ⟨rfl, rfl, rfl, by simp [World.setRow], fun k hk hne => setRow_other w g k _ (fun e => hne (by rw [e]))⟩
/-- The disk whose variable is block gd: its bytes bs (in v), the first s of them synced. -/
structure DiskAt (w : World) (B gd : Nat) (v : Value) (bs : List UInt8) (s : Nat) : Prop where
  cell : w.heap[gd]? = some (.cells #[v, .int .i64 (s : Int)] 139 (0, 0))
  own : Own w B v bs
  ne : v.ownBlock ≠ some gd
  syn : s ≤ bs.length
  max : bs.length ≤ 262144
/-- What the disk lies in. -/
def DiskIn (gd : Nat) (v : Value) (k : Nat) : Prop := k = gd ∨ v.ownBlock = some k
theorem DiskAt.same {w w' : World} {B gd s : Nat} {v : Value} {bs : List UInt8} (h : DiskAt w B gd v bs s) (hk : ∀ k, DiskIn gd v k → w'.heap[k]? = w.heap[k]?) : DiskAt w' B gd v bs s :=
  { h with
    cell := (hk gd (.inl rfl)).trans h.cell
    own := ownsRow_same h.own fun k hv => hk k (.inr hv) }
theorem DiskAt.lt {w : World} {B gd s : Nat} {v : Value} {bs : List UInt8} (h : DiskAt w B gd v bs s) : ∀ k, DiskIn gd v k → k < w.heap.size := by
  rintro k (rfl | hk)
  · exact heap_lt h.cell
  · exact (World.ownsRow.lt h.own k hk).2
theorem DiskAt.keep {w w' : World} {B gd s : Nat} {v : Value} {bs : List UInt8} (h : DiskAt w B gd v bs s) (hb : Below w.heap.size w w') : DiskAt w' B gd v bs s := h.same fun k hk => hb.block k (h.lt k hk)
theorem DiskAt.upd {w w' : World} {B gd s : Nat} {v : Value} {bs : List UInt8} {S : Nat → Prop} (h : DiskAt w B gd v bs s) (hu : Upd S w w') (hd : ∀ k, DiskIn gd v k → ¬ S k) : DiskAt w' B gd v bs s := h.same fun k hk => hu.block k (h.lt k hk) (hd k hk)
theorem DiskAt.c0 {w : World} {B gd s : Nat} {v : Value} {bs : List UInt8} (h : DiskAt w B gd v bs s) : w.cell? ⟨gd, 0, none⟩ = some v := by simp [World.cell?, h.cell]
theorem DiskAt.c1 {w : World} {B gd s : Nat} {v : Value} {bs : List UInt8} (h : DiskAt w B gd v bs s) : w.cell? ⟨gd, 1, none⟩ = some (.int .i64 (s : Int)) := by simp [World.cell?, h.cell]
theorem DiskAt.frozen {w : World} {B gd s : Nat} {v : Value} {bs : List UInt8} (h : DiskAt w B gd v bs s) (i : Nat) : w.frozen? ⟨gd, i, none⟩ = false := by simp [World.frozen?, h.cell]
/-- The number of synced bytes is set. -/
theorem DiskAt.setSyn {w : World} {B gd s : Nat} {v : Value} {bs : List UInt8} (h : DiskAt w B gd v bs s) (t : Nat) (ht : t ≤ bs.length) : DiskAt (w.setCell ⟨gd, 1, none⟩ (.int .i64 (t : Int))) B gd v bs t :=
  { h with
    cell := by rw [heap_set1 h.cell]; rfl
    own := ownsRow_same h.own fun k hv => Below.heap_setCell _ _ _ _ (fun e => h.ne (by rw [hv, e]))
    syn := ht }
theorem DiskAt.setBytes {w w1 : World} {B gd s : Nat} {v v' : Value} {bs bs' : List UInt8} (h : DiskAt w B gd v bs s) (hg : w1.heap[gd]? = w.heap[gd]?) (ho : Own w1 B v' bs') (hne : v'.ownBlock ≠ some gd) (hs : s ≤ bs'.length) (hm : bs'.length ≤ 262144) : DiskAt (w1.setCell ⟨gd, 0, none⟩ v') B gd v' bs' s :=
  { cell := by rw [heap_set1 (hg.trans h.cell)]; rfl
    own := ownsRow_same ho fun k hv => Below.heap_setCell _ _ _ _ (fun e => hne (by rw [hv, e]))
    ne := hne
    syn := hs
    max := hm }
theorem Own.cut {w : World} {B cap : Nat} {ao : Option Addr} {l : List UInt8} {n : Nat} (h : Own w B (.slice ao n cap) l) (m : Nat) (hm : m ≤ n) : Own w B (.slice ao m cap) (l.take m) := by
  obtain ⟨ao', cap', e, -⟩ := h.shape
  have hn : n = l.length := by cases e; rfl
  subst hn
  clear e
  obtain ⟨h1, h2⟩ := h
  have hlen : (l.take m).length = m := by simp; omega
  refine ⟨by simp, ?_⟩
  rw [hlen]
  rcases h2 with ⟨e, h0⟩ | ⟨g, c, cur, e, hB, hg, hn, hc, hs, ht⟩
  · have e' : ao = none ∧ cap = 0 := by injection e with e1 e2 e3; exact ⟨e1, e3⟩
    obtain ⟨rfl, rfl⟩ := e'
    have : m = 0 := by omega
    subst this
    exact .inl ⟨rfl, rfl⟩
  · have e' : ao = some ⟨g, 0, none⟩ ∧ cap = c := by injection e with e1 e2 e3; exact ⟨e1, e3⟩
    obtain ⟨rfl, rfl⟩ := e'
    refine .inr ⟨g, cap, cur, rfl, hB, hg, by omega, hc, hs, ?_⟩
    rw [List.map_take, ← ht, List.take_take]
    congr 1
    omega
theorem upd_set {w w1 : World} {gd : Nat} {S : Nat → Prop} (h : Upd S w w1) (hS : S gd) (o : Nat) (x : Value) : Upd S w (w1.setCell ⟨gd, o, none⟩ x) :=
  ⟨h.os, h.tape, h.output, by rw [World.size_setCell]; exact h.size, fun k hk hn => (Below.heap_setCell _ _ _ _ (fun e => hn (by rw [show k = gd from e]; exact hS))).trans (h.block k hk hn)⟩

set_option maxHeartbeats 1000000 in
theorem size_any (B gd s : Nat) (v : Value) (bs : List UInt8) (w : World) (h : DiskAt w B gd v bs s) :
    Calls Tryd.prog 62 #[.pointer (some ⟨gd, 0, none⟩)] w fun e w' => e = .returned (.int .i64 (bs.length : Int)) ∧ w = w' := by
  have hc0 := h.c0
  obtain ⟨ao, cap, rfl, -, -, -, -, -, -⟩ := h.own.shape
  clear h
  go_enter Tryd.func62, Tryd.ntmps62
  go_wp2_with fail
  go_ret
  exact ⟨rfl, rfl⟩
set_option maxHeartbeats 1000000 in
theorem synced_any (B gd s : Nat) (v : Value) (bs : List UInt8) (w : World) (h : DiskAt w B gd v bs s) :
    Calls Tryd.prog 98 #[.pointer (some ⟨gd, 0, none⟩)] w fun e w' => e = .returned (.int .i64 (s : Int)) ∧ w = w' := by
  have hc0 := h.c1
  clear h
  go_enter Tryd.func98, Tryd.ntmps98
  go_wp2_with fail
  go_ret
  exact ⟨rfl, rfl⟩
/-- Where nothing but the disk may have turned. -/
def DiskPost (w : World) (B gd : Nat) (v : Value) (bs : List UInt8) (s : Nat) (w' : World) : Prop :=
  ∃ v', DiskAt w' B gd v' bs s ∧ Upd (DiskIn gd v) w w' ∧ (v'.ownBlock = v.ownBlock ∨ ∀ k, v'.ownBlock = some k → w.heap.size ≤ k)
set_option maxHeartbeats 1000000 in
theorem cut_any (B gd s : Nat) (v : Value) (bs : List UInt8) (w : World) (h : DiskAt w B gd v bs s) (n : Nat) (hn : n ≤ bs.length) :
    Calls Tryd.prog 97 #[.pointer (some ⟨gd, 0, none⟩), .int .i64 (n : Int)] w fun e w' => e = .returned (.int .i64 0) ∧ DiskPost w B gd v (bs.take n) (min s n) w' := by
  have hc0 := h.c0
  have hc1 := h.c1
  have hf0 := h.frozen 0
  have hf1 := h.frozen 1
  have hm := h.max
  have hs1 := h.setSyn (min s n) (by have := h.syn; omega)
  obtain ⟨ao, cap, rfl, hcap, -, -, -, -, -⟩ := h.own.shape
  have hsyn := h.syn
  have H := Lib.hid h; have HS := Lib.hid hs1
  clear h hs1
  go_enter Tryd.func97, Tryd.ntmps97
  go_wp2_with fail
  all_goals
    first | (rw [Nat.min_eq_left (by omega)] at HS ⊢) | (rw [Nat.min_eq_right (by omega)] at HS ⊢)
    go_ret
    have ob : (Value.slice ao n cap).ownBlock = (Value.slice ao bs.length cap).ownBlock := by cases ao <;> rfl
    refine ⟨rfl, _, HS.out.setBytes rfl (HS.out.own.cut n hn) (ob ▸ H.out.ne) (by simp; omega) (by simp; omega), upd_set (upd_set (Upd.refl _ _) (.inl rfl) _ _) (.inl rfl) _ _, .inl ob⟩

set_option maxHeartbeats 1000000 in
/-- What the file tells of its bytes. -/
theorem bytes_any (B gd s : Nat) (v : Value) (bs : List UInt8) (w : World) (h : DiskAt w B gd v bs s) :
    Calls Tryd.prog 58 #[.pointer (some ⟨gd, 0, none⟩)] w (NewRow w bs) := by
  have hc0 := h.c0
  have hm := h.max
  obtain ⟨ao, cap, rfl, hcap, -, hrd, hlt, -, -⟩ := h.own.shape
  have hgl := heap_lt h.cell
  have HRD := Lib.hid hrd
  clear h hrd hlt
  obtain ⟨n, hn⟩ : ∃ n, n = bs.length := ⟨_, rfl⟩
  rw [← hn] at hc0 hm hcap
  have HN := Lib.hid hn.symm
  clear hn
  go_enter Tryd.func58, Tryd.ntmps58
  go_wp2_with (first
    | (at_make; refine wpList_makeB rfl _ _ rfl _ _ n rfl rfl (by omega) (by omega) (by omega) ?_; intro w1 hrow hg1; have HROW := Lib.hid (show w1.heap[w.heap.size]? = some (.cells ((List.replicate n (0 : UInt8)).map bv).toArray 5 (0, 0)) from hrow); have HB1 := Lib.hid ((Below.refl w.heap.size w).grown hg1 (Nat.le_refl _) (fun k hk => by cases hk)); have hc1 : w1.cell? ⟨gd, 0, none⟩ = some (.slice ao n cap) := (World.cell?_of_block (w := w) (a := ⟨gd, 0, none⟩) (HB1.out.block gd hgl)).trans hc0; clear hrow hg1)
    | ((with_reducible refine wpList_copyB rfl (.tmp 10) (.tmp 14) 27 27 rfl 5 Tryd.underlying27 Tryd.sizeU8 _ _ _ _ _ _ rfl rfl w.heap.size 0 ((List.replicate n (0 : UInt8)).map bv) 5 HROW.out bs HN.out (HRD.out.step HB1.out) (Nat.le_refl _) (fun _ => rfl) (by simp) w.heap.size w HB1.out (Nat.le_refl _) ?_); intro w2 hrow2 hB2))
  have hrow3 : Row w2 w.heap.size bs := by
    unfold Row
    rw [hrow2.out]
    have e : splice ((List.replicate n (0 : UInt8)).map bv) 0 (bs.map bv) = bs.map bv := by
      have := HN.out
      simp [splice, this]
    rw [e]
  go_ret
  refine ⟨w.heap.size, ?_, Nat.le_refl _, hrow3, hB2⟩
  rw [HN.out]
  rfl

set_option maxHeartbeats 1000000 in
/-- Bytes are put behind the tail. -/
theorem append_any (B gd s : Nat) (v : Value) (bs : List UInt8) (w : World) (h : DiskAt w B gd v bs s) (ap : Option Addr) (n cap2 : Nat) (p : List UInt8) (hl : p.length = n) (hr : Rd w ap p) (hnil : ap = none → cap2 = 0) (hfit : bs.length + n ≤ 262144) (hB : B ≤ w.heap.size) :
    Calls Tryd.prog 99 #[.pointer (some ⟨gd, 0, none⟩), .slice ap n cap2] w fun e w' => e = .returned (.int .i64 0) ∧ DiskPost w B gd v (bs ++ p) s w' := by
  have hc0 := h.c0
  have hf0 := h.frozen 0
  have hgl := heap_lt h.cell
  obtain ⟨ao, cap, rfl, -, -, -, -, -, -⟩ := h.own.shape
  have H := Lib.hid h; have HL := Lib.hid hl; have HR := Lib.hid hr; have HN := Lib.hid hnil
  clear h hl hr hnil
  obtain ⟨m, hm⟩ : ∃ m, m = bs.length := ⟨_, rfl⟩
  have HO := Lib.hid (show Own w B (.slice ao m cap) bs by rw [hm]; exact H.out.own)
  have HNE := Lib.hid (show (Value.slice ao m cap).ownBlock ≠ some gd by rw [hm]; exact H.out.ne)
  have HM := Lib.hid hm
  rw [← hm] at hc0 hfit ⊢
  clear hm
  go_enter Tryd.func99, Tryd.ntmps99
  go_wp2_with (at_builtin; go_must (with_reducible refine wpList_appendO rfl (.tmp 18) (.tmp 19) rfl B (.slice ao m cap) bs p rfl HO.out ap n cap2 rfl HN.out HL.out HR.out (by rw [← HM.out]; omega) hB (m + n) (by rw [← HM.out]) ?_); intro a3 c3 w3 ho3 hg3 hat3; have hgd : w3.heap[gd]? = w.heap[gd]? := hg3.block gd hgl (fun e => HNE.out e.symm); have hcg : w3.cell? ⟨gd, 0, none⟩ = some (.slice ao m cap) := (World.cell?_of_block (w := w) (a := ⟨gd, 0, none⟩) hgd).trans hc0; have hfg : w3.frozen? ⟨gd, 0, none⟩ = false := (World.frozen?_of_block (w := w) (a := ⟨gd, 0, none⟩) hgd).trans hf0)
  go_ret
  have hne3 : (Value.slice a3 (m + n) c3).ownBlock ≠ some gd := by
    rcases hat3 with e | e
    · rw [e]; exact HNE.out
    · rw [e]; intro h; cases h; omega
  have hin : ∀ k, DiskIn gd (Value.slice ao m cap) k → DiskIn gd (Value.slice ao bs.length cap) k := fun k hk => by rw [← HM.out]; exact hk
  refine ⟨rfl, _, H.out.setBytes hgd ho3 hne3 (by simp; have := H.out.syn; omega) (by have := HM.out; have := HL.out; simp; omega), upd_set (Upd.of_grown hg3 (fun k hk => .inr hk)) (.inl rfl) _ _, ?_⟩
  rcases hat3 with e | e
  · exact .inl e
  · exact .inr fun k hk => by rw [e] at hk; cases hk; exact Nat.le_refl _

/-- A new disk. -/
def FromPost (w : World) (bs : List UInt8) (e : Ending) (w' : World) : Prop :=
  ∃ gd v, e = .returned (.tuple #[.pointer (some ⟨gd, 0, none⟩), .int .i64 0]) ∧ DiskAt w' w.heap.size gd v bs bs.length ∧ w.heap.size ≤ gd ∧ Below w.heap.size w w'
set_option maxHeartbeats 1000000 in
theorem from_full (ap : Option Addr) (n cap : Nat) (w : World) (hn : 262144 < n) (hb : n ≤ 140737488355328) :
    Calls Tryd.prog 55 #[.slice ap n cap] w fun e w' => e = .returned (.tuple #[.pointer none, .int .i64 20]) ∧ w = w' := by
  go_enter Tryd.func55, Tryd.ntmps55
  go_wp2_with fail
  go_ret2
  exact ⟨rfl, rfl⟩
set_option maxRecDepth 100000 in
set_option maxHeartbeats 1000000 in
theorem from_any (ap : Option Addr) (n cap : Nat) (bs : List UInt8) (w : World) (hl : bs.length = n) (hr : Rd w ap bs) (hn : n ≤ 262144) :
    Calls Tryd.prog 55 #[.slice ap n cap] w (FromPost w bs) := by
  have HL := Lib.hid hl; have HR := Lib.hid hr
  clear hl hr
  go_enter Tryd.func55, Tryd.ntmps55
  go_wp2_with (first
    | (at_make; refine wpList_makeB rfl _ _ rfl _ _ n rfl rfl (by omega) (by omega) (by omega) ?_; intro w1 hrow hg1; have HROW := Lib.hid hrow; have HB1 := Lib.hid ((Below.refl w.heap.size w).grown hg1 (Nat.le_refl _) (fun k hk => by cases hk)); clear hrow hg1)
    | ((with_reducible refine wpList_copyRow rfl (.tmp 18) (.tmp 19) rfl w.heap.size n n _ _ rfl rfl (List.replicate n 0) bs (HROW.out.below (balloc w1 _) HROW.out.lt) (by simp) HL.out ((HR.out.step HB1.out).step (balloc w1 _)) ?_); intro w2 hrow2 hg2))
  have hb2 : Below w.heap.size w w2 := (HB1.out.alloc HB1.out.size _).grown hg2 (by have := HB1.out.size; simp; omega) (fun k hk => by have := Option.some.inj hk; omega)
  have hlt : w.heap.size < w1.heap.size := HROW.out.lt
  have hd2 : w2.heap[w1.heap.size]? = some (.cells #[.slice (some ⟨w.heap.size, 0, none⟩) n n, .int .i64 (n : Int)] 139 (0, 0)) := (hg2.block _ (by simp) (fun e => by have := Option.some.inj e; omega)).trans (heap_alloc_new w1 _)
  have ho := hrow2.own (B := w.heap.size) (Nat.le_refl _) (by rw [HL.out]; unfold maxLen; omega)
  rw [HL.out] at ho
  go_ret2
  refine ⟨_, _, rfl, ⟨?_, ho, ?_, Nat.le_refl _, by rw [HL.out]; exact hn⟩, HB1.out.size, hb2⟩
  · rw [HL.out]; exact hd2
  · intro e; have : w.heap.size = w1.heap.size := Option.some.inj e; omega
end Go.Proofs.YtoophonmonojcaaDoor
