/- net.Net.Ask: what comes. -/
import Derived.Test.YthleaofgodkehaaNet
import Derived.Test.YthleaofgodkehaaRowFacts
namespace Go.Proofs.Ythleaofgodkehaa
open Go.RowKit
set_option linter.unusedVariables false

def turnB (s : ByteArray) (f : UInt8) : ByteArray :=
  bstr (s.data.toList.set (f.toNat / 6 % s.size) (s.data.toList.getD (f.toNat / 6 % s.size) 0 ^^^ UInt8.ofNat (2 ^ (f.toNat % 8))))
/-- What becomes of an answer: the fates and the answers that wait behind it, and what comes. -/
def goP (fs : List UInt8) (ls : List ByteArray) (s : ByteArray) : List UInt8 × List ByteArray × Option ByteArray :=
  let f := (fs.headD 0).toNat % 6
  if f = 1 then (fs.tail, ls, none)
  else if f = 2 then (fs.tail, ls, if s.size = 0 then none else some (turnB s (fs.headD 0)))
  else if f = 3 then (fs.tail, ls ++ [s], none)
  else if f = 4 then (fs.tail, (ls ++ [s]).tail, (ls ++ [s]).head?)
  else if f = 5 then (fs.tail, ls ++ [s], some s)
  else (fs.tail, ls, some s)
def askP (fs : List UInt8) (ls : List ByteArray) (r : Option ByteArray) : List UInt8 × List ByteArray × Option ByteArray :=
  if (fs.headD 0).toNat % 2 = 1 then (fs.tail, ls, none)
  else match r with
    | none => (fs.tail, ls, none)
    | some s => goP fs.tail ls s
def outV (r : Option ByteArray) : Value := .tuple #[.string (r.getD ByteArray.empty), .bool r.isSome]
theorem PoolAt.two {B : Nat} {w w' : World} {gp b n k : Nat} {q : Option Nat} {L : List Ent1} {fs : List UInt8} {ls : List ByteArray} (h : PoolAt w gp b L) (hN : NetAt B w n q fs ls k) (t : Two w w' n q) : PoolAt w' gp b L := by
  obtain ⟨fv, qv, hb, hf, hq⟩ := hN
  have h1 : some gp ≠ q := fun e => by obtain ⟨cur, hc⟩ := hq.str gp e.symm; exact h.blk.ne hc ne_types.1.2.2.2.2 rfl
  have h2 : some b ≠ q := fun e => by obtain ⟨cur, hc⟩ := hq.str b e.symm; exact h.map.ne_blk hc rfl
  refine ⟨t.blk h.blk (h.blk.ne hb ne_types.1.2.2.2.1) h1, ?_, h.ids⟩
  have hl := h.map.lt
  obtain ⟨es, c, h3, h4⟩ := h.map
  exact ⟨es, c, (t.block b hl (fun e => h.map.ne_blk hb e.symm) h2).trans h3, h4⟩
theorem ne_id : 38 ≠ 54 ∧ 38 ≠ 9 := by decide
theorem idblk_two {B : Nat} {w w' : World} {n k g : Nat} {q : Option Nat} {fs : List UInt8} {ls : List ByteArray} {cs : Array Value} (h : Blk w g 38 cs) (hN : NetAt B w n q fs ls k) (t : Two w w' n q) : Blk w' g 38 cs := by
  obtain ⟨fv, qv, hb, hf, hq⟩ := hN
  exact t.blk h (h.ne hb ne_id.1) (fun e => by obtain ⟨cur, hc⟩ := hq.str g e.symm; exact h.ne hc ne_id.2 rfl)
theorem obj_method (gp : Nat) : ∀ (m : Nat) (w : World), (method (m + 2) 27 (.pointer (some ⟨gp, 0, none⟩)) "Object").run Try.prog w = .ok (36, .pointer (some ⟨gp, 0, none⟩)) w := fun m w => by kernel_rfl
def AskC (B n : Nat) (q : Option Nat) (fs : List UInt8) (ls : List ByteArray) (k : Nat) (w : World) (gp : Nat) (x : List UInt8) (fs' : List UInt8) (ls' : List ByteArray) (r : Option ByteArray) : Prop :=
  Calls Try.prog 13 #[.pointer (some ⟨n, 0, none⟩), .iface 27 (.pointer (some ⟨gp, 0, none⟩)), .agg (bv x).toArray] w fun e w' => ∃ q', e = .returned (outV r) ∧ NetAt B w' n q' fs' ls' (k + 1) ∧ Two w w' n q ∧ (q' = q ∨ ∃ j, q' = some j ∧ w.heap.size ≤ j)

set_option maxRecDepth 50000 in
set_option maxHeartbeats 4000000 in
theorem ask_odd (B n : Nat) (q : Option Nat) (fs : List UInt8) (ls : List ByteArray) (k : Nat) (w : World) (h : NetAt B w n q fs ls k) (hk : k < 1000000) (hB : B ≤ w.heap.size) (gp b : Nat) (L : List Ent1) (hp : PoolAt w gp b L) (x : List UInt8) (hx : x.length = 33) (h1 : (fs.headD 0).toNat % 2 = 1) :
    AskC B n q fs ls k w gp x fs.tail ls none := by
  have HX := Lib.hid hx
  obtain ⟨F1, hF1⟩ : ∃ F1, F1 = (fs.headD 0).toNat := ⟨_, rfl⟩
  obtain ⟨F2, hF2⟩ : ∃ F2, F2 = (fs.tail.headD 0).toNat := ⟨_, rfl⟩
  have hF1r : F1 < 256 := by rw [hF1]; exact UInt8.toNat_lt _
  have hF2r : F2 < 256 := by rw [hF2]; exact UInt8.toNat_lt _
  have e1 : ((F1 : Int) % 2 == 1) = true := by rw [← hF1] at h1; simp; omega

  have hfa := fun (w' : World) (h' : NetAt B w' n q fs ls (k + 1)) => fate_calls B n q fs ls (k + 1) w' h'
  have hfb := fun (w' : World) (h' : NetAt B w' n q fs.tail ls (k + 1)) => fate_calls B n q fs.tail ls (k + 1) w' h'
  rw [← hF1] at hfa
  rw [← hF2] at hfb
  have HFA := Lib.hid hfa
  have HFB := Lib.hid hfb
  clear hfa hfb hF1 hF2
  have hmeth := obj_method gp 176
  unfold AskC
  go_enter Try.func13, Try.ntmps13
  obtain ⟨w1, hw1⟩ : ∃ w1, w1 = w.alloc (.cells (bv x).toArray 38) := ⟨_, rfl⟩
  have hx1 : Ext w w1 := by rw [hw1]; exact (Ext.refl _).alloc _
  have HI := Lib.hid (show Blk w1 w.heap.size 38 (bv x).toArray from by rw [hw1]; exact Blk.new w _ _)
  have H1 := Lib.hid (h.ext hx1)
  have HP := Lib.hid (hp.ext hx1)
  go_upto_region 1 with (fail)
  rw [← hw1]
  obtain ⟨gi, hgi⟩ : ∃ gi, gi = w.heap.size := ⟨_, rfl⟩
  rw [← hgi] at HI ⊢
  clear hw1 hgi h hp hx
  obtain ⟨fv, qv, hb, hf, hq⟩ := id H1.out
  have c2 : w1.cell? ⟨n, 2, none⟩ = some (.int .i64 k) := by rw [hb.cell]; rfl
  have f2 := hb.frozen 2
  have hg1 := grown_set w1 n 2 (.int .i64 ((k : Int) + 1))
  have HT1 := Lib.hid (show Two w _ n q from (Two.of_ext hx1).trans (Two.one (q := q) hg1) (.inl rfl))
  have HN1 := Lib.hid (NetAt.turn (k' := k + 1) hg1 hb hf hq (hb.set 2 _))
  have HI1 := Lib.hid (Blk.grown HI.out hg1 (fun e => HI.out.ne hb ne_id.1 (Option.some.inj e)))
  have HP1 := Lib.hid (HP.out.two H1.out (Two.one (q := q) hg1))
  clear hb hf hq
  go_wp2_with (first
    | (go_at_call 19; (with_reducible refine (HFA.out _ HN1.out).mono ?_); rintro e w2 ⟨rfl, hN2, ht2⟩; have HN2 := Lib.hid hN2; have HT2 := Lib.hid (HT1.out.trans ht2 (.inl rfl)); have HI2 := Lib.hid (idblk_two HI1.out HN1.out ht2); have HP2 := Lib.hid (HP1.out.two HN1.out ht2); have hcx : ∀ (j : Nat) (v : Value), (bv x)[j]? = some v → w2.cell? ((⟨gi, 0, none⟩ : Addr).add j) = some v := (fun j v hv => by have h := HI2.out.cells; rw [List.toList_toArray] at h; obtain ⟨y, hy, hc⟩ := h j v hv; cases hy; exact hc); clear hN2 ht2))
  go_ret2
  exact ⟨q, rfl, HN2.out, HT2.out, .inl rfl⟩

set_option maxRecDepth 50000 in
set_option maxHeartbeats 4000000 in
theorem ask_none (B n : Nat) (q : Option Nat) (fs : List UInt8) (ls : List ByteArray) (k : Nat) (w : World) (h : NetAt B w n q fs ls k) (hk : k < 1000000) (hB : B ≤ w.heap.size) (gp b : Nat) (L : List Ent1) (hp : PoolAt w gp b L) (x : List UInt8) (hx : x.length = 33) (h1 : (fs.headD 0).toNat % 2 ≠ 1) (hr : at1 x L = none) :
    AskC B n q fs ls k w gp x fs.tail ls none := by
  have HX := Lib.hid hx
  obtain ⟨F1, hF1⟩ : ∃ F1, F1 = (fs.headD 0).toNat := ⟨_, rfl⟩
  obtain ⟨F2, hF2⟩ : ∃ F2, F2 = (fs.tail.headD 0).toNat := ⟨_, rfl⟩
  have hF1r : F1 < 256 := by rw [hF1]; exact UInt8.toNat_lt _
  have hF2r : F2 < 256 := by rw [hF2]; exact UInt8.toNat_lt _
  have e1 : ((F1 : Int) % 2 == 1) = false := by rw [← hF1] at h1; simp; omega
  have HOB := Lib.hid (show ∀ (w' : World), PoolAt w' gp b L → Calls Try.prog 36 #[.pointer (some ⟨gp, 0, none⟩), .agg (bv x).toArray] w' fun e w'' => e = .returned (.tuple #[.string ByteArray.empty, .int .i64 5]) ∧ Ext w' w'' from fun w' h' => by have h := pobject_calls gp b L x w' h' hx; rw [hr] at h; exact h)

  have hfa := fun (w' : World) (h' : NetAt B w' n q fs ls (k + 1)) => fate_calls B n q fs ls (k + 1) w' h'
  have hfb := fun (w' : World) (h' : NetAt B w' n q fs.tail ls (k + 1)) => fate_calls B n q fs.tail ls (k + 1) w' h'
  rw [← hF1] at hfa
  rw [← hF2] at hfb
  have HFA := Lib.hid hfa
  have HFB := Lib.hid hfb
  clear hfa hfb hF1 hF2
  have hmeth := obj_method gp 176
  unfold AskC
  go_enter Try.func13, Try.ntmps13
  obtain ⟨w1, hw1⟩ : ∃ w1, w1 = w.alloc (.cells (bv x).toArray 38) := ⟨_, rfl⟩
  have hx1 : Ext w w1 := by rw [hw1]; exact (Ext.refl _).alloc _
  have HI := Lib.hid (show Blk w1 w.heap.size 38 (bv x).toArray from by rw [hw1]; exact Blk.new w _ _)
  have H1 := Lib.hid (h.ext hx1)
  have HP := Lib.hid (hp.ext hx1)
  go_upto_region 1 with (fail)
  rw [← hw1]
  obtain ⟨gi, hgi⟩ : ∃ gi, gi = w.heap.size := ⟨_, rfl⟩
  rw [← hgi] at HI ⊢
  clear hw1 hgi h hp hx
  obtain ⟨fv, qv, hb, hf, hq⟩ := id H1.out
  have c2 : w1.cell? ⟨n, 2, none⟩ = some (.int .i64 k) := by rw [hb.cell]; rfl
  have f2 := hb.frozen 2
  have hg1 := grown_set w1 n 2 (.int .i64 ((k : Int) + 1))
  have HT1 := Lib.hid (show Two w _ n q from (Two.of_ext hx1).trans (Two.one (q := q) hg1) (.inl rfl))
  have HN1 := Lib.hid (NetAt.turn (k' := k + 1) hg1 hb hf hq (hb.set 2 _))
  have HI1 := Lib.hid (Blk.grown HI.out hg1 (fun e => HI.out.ne hb ne_id.1 (Option.some.inj e)))
  have HP1 := Lib.hid (HP.out.two H1.out (Two.one (q := q) hg1))
  clear hb hf hq
  go_wp2_with (first
    | (go_at_call 19; (with_reducible refine (HFA.out _ HN1.out).mono ?_); rintro e w2 ⟨rfl, hN2, ht2⟩; have HN2 := Lib.hid hN2; have HT2 := Lib.hid (HT1.out.trans ht2 (.inl rfl)); have HI2 := Lib.hid (idblk_two HI1.out HN1.out ht2); have HP2 := Lib.hid (HP1.out.two HN1.out ht2); have hcx : ∀ (j : Nat) (v : Value), (bv x)[j]? = some v → w2.cell? ((⟨gi, 0, none⟩ : Addr).add j) = some v := (fun j v hv => by have h := HI2.out.cells; rw [List.toList_toArray] at h; obtain ⟨y, hy, hc⟩ := h j v hv; cases hy; exact hc); clear hN2 ht2)
    | (refine wpList_load_row_ rfl 38 (.tmp 5) rfl ⟨gi, 0, none⟩ rfl (bv x) _ hcx Try.underlying38 rfl (by rw [id_info, bv_length, HX.out]) ?_)
    | (go_at_call 36; (with_reducible refine (HOB.out w2 HP2.out).mono ?_); rintro e w3 ⟨rfl, hx3⟩; have HN3 := Lib.hid (HN2.out.ext hx3); have HT3 := Lib.hid (HT2.out.trans (Two.of_ext (n := n) (q := q) hx3) (.inl rfl))))
  go_ret2
  exact ⟨q, rfl, HN3.out, HT3.out, .inl rfl⟩

set_option maxRecDepth 50000 in
set_option maxHeartbeats 4000000 in
theorem ask_lost (B n : Nat) (q : Option Nat) (fs : List UInt8) (ls : List ByteArray) (k : Nat) (w : World) (h : NetAt B w n q fs ls k) (hk : k < 1000000) (hB : B ≤ w.heap.size) (gp b : Nat) (L : List Ent1) (hp : PoolAt w gp b L) (x : List UInt8) (hx : x.length = 33) (h1 : (fs.headD 0).toNat % 2 ≠ 1) (s : ByteArray) (hr : at1 x L = some s) (h2 : (fs.tail.headD 0).toNat % 6 = 1) :
    AskC B n q fs ls k w gp x fs.tail.tail ls none := by
  have HX := Lib.hid hx
  obtain ⟨F1, hF1⟩ : ∃ F1, F1 = (fs.headD 0).toNat := ⟨_, rfl⟩
  obtain ⟨F2, hF2⟩ : ∃ F2, F2 = (fs.tail.headD 0).toNat := ⟨_, rfl⟩
  have hF1r : F1 < 256 := by rw [hF1]; exact UInt8.toNat_lt _
  have hF2r : F2 < 256 := by rw [hF2]; exact UInt8.toNat_lt _
  have e1 : ((F1 : Int) % 2 == 1) = false := by rw [← hF1] at h1; simp; omega
  have HOB := Lib.hid (show ∀ (w' : World), PoolAt w' gp b L → Calls Try.prog 36 #[.pointer (some ⟨gp, 0, none⟩), .agg (bv x).toArray] w' fun e w'' => e = .returned (.tuple #[.string s, .int .i64 0]) ∧ Ext w' w'' from fun w' h' => by have h := pobject_calls gp b L x w' h' hx; rw [hr] at h; exact h)
  have m1 : ((F2 : Int) % 6 == 1) = true := by rw [← hF2] at h2; simp; omega

  have hfa := fun (w' : World) (h' : NetAt B w' n q fs ls (k + 1)) => fate_calls B n q fs ls (k + 1) w' h'
  have hfb := fun (w' : World) (h' : NetAt B w' n q fs.tail ls (k + 1)) => fate_calls B n q fs.tail ls (k + 1) w' h'
  rw [← hF1] at hfa
  rw [← hF2] at hfb
  have HFA := Lib.hid hfa
  have HFB := Lib.hid hfb
  clear hfa hfb hF1 hF2
  have hmeth := obj_method gp 176
  unfold AskC
  go_enter Try.func13, Try.ntmps13
  obtain ⟨w1, hw1⟩ : ∃ w1, w1 = w.alloc (.cells (bv x).toArray 38) := ⟨_, rfl⟩
  have hx1 : Ext w w1 := by rw [hw1]; exact (Ext.refl _).alloc _
  have HI := Lib.hid (show Blk w1 w.heap.size 38 (bv x).toArray from by rw [hw1]; exact Blk.new w _ _)
  have H1 := Lib.hid (h.ext hx1)
  have HP := Lib.hid (hp.ext hx1)
  go_upto_region 1 with (fail)
  rw [← hw1]
  obtain ⟨gi, hgi⟩ : ∃ gi, gi = w.heap.size := ⟨_, rfl⟩
  rw [← hgi] at HI ⊢
  clear hw1 hgi h hp hx
  obtain ⟨fv, qv, hb, hf, hq⟩ := id H1.out
  have c2 : w1.cell? ⟨n, 2, none⟩ = some (.int .i64 k) := by rw [hb.cell]; rfl
  have f2 := hb.frozen 2
  have hg1 := grown_set w1 n 2 (.int .i64 ((k : Int) + 1))
  have HT1 := Lib.hid (show Two w _ n q from (Two.of_ext hx1).trans (Two.one (q := q) hg1) (.inl rfl))
  have HN1 := Lib.hid (NetAt.turn (k' := k + 1) hg1 hb hf hq (hb.set 2 _))
  have HI1 := Lib.hid (Blk.grown HI.out hg1 (fun e => HI.out.ne hb ne_id.1 (Option.some.inj e)))
  have HP1 := Lib.hid (HP.out.two H1.out (Two.one (q := q) hg1))
  clear hb hf hq
  go_wp2_with (first
    | (go_at_call 19; (with_reducible refine (HFA.out _ HN1.out).mono ?_); rintro e w2 ⟨rfl, hN2, ht2⟩; have HN2 := Lib.hid hN2; have HT2 := Lib.hid (HT1.out.trans ht2 (.inl rfl)); have HI2 := Lib.hid (idblk_two HI1.out HN1.out ht2); have HP2 := Lib.hid (HP1.out.two HN1.out ht2); have hcx : ∀ (j : Nat) (v : Value), (bv x)[j]? = some v → w2.cell? ((⟨gi, 0, none⟩ : Addr).add j) = some v := (fun j v hv => by have h := HI2.out.cells; rw [List.toList_toArray] at h; obtain ⟨y, hy, hc⟩ := h j v hv; cases hy; exact hc); clear hN2 ht2)
    | (refine wpList_load_row_ rfl 38 (.tmp 5) rfl ⟨gi, 0, none⟩ rfl (bv x) _ hcx Try.underlying38 rfl (by rw [id_info, bv_length, HX.out]) ?_)
    | (go_at_call 36; (with_reducible refine (HOB.out w2 HP2.out).mono ?_); rintro e w3 ⟨rfl, hx3⟩; have HN3 := Lib.hid (HN2.out.ext hx3); have HT3 := Lib.hid (HT2.out.trans (Two.of_ext (n := n) (q := q) hx3) (.inl rfl)))
    | (go_at_call 19; (with_reducible refine (HFB.out _ HN3.out).mono ?_); rintro e w4 ⟨rfl, hN4, ht4⟩; have HN4 := Lib.hid hN4; have HT4 := Lib.hid (HT3.out.trans ht4 (.inl rfl)); clear hN4 ht4))
  go_ret2
  exact ⟨q, rfl, HN4.out, HT4.out, .inl rfl⟩

set_option maxRecDepth 50000 in
set_option maxHeartbeats 4000000 in
theorem ask_plain (B n : Nat) (q : Option Nat) (fs : List UInt8) (ls : List ByteArray) (k : Nat) (w : World) (h : NetAt B w n q fs ls k) (hk : k < 1000000) (hB : B ≤ w.heap.size) (gp b : Nat) (L : List Ent1) (hp : PoolAt w gp b L) (x : List UInt8) (hx : x.length = 33) (h1 : (fs.headD 0).toNat % 2 ≠ 1) (s : ByteArray) (hr : at1 x L = some s) (h2 : (fs.tail.headD 0).toNat % 6 = 0) :
    AskC B n q fs ls k w gp x fs.tail.tail ls (some s) := by
  have HX := Lib.hid hx
  obtain ⟨F1, hF1⟩ : ∃ F1, F1 = (fs.headD 0).toNat := ⟨_, rfl⟩
  obtain ⟨F2, hF2⟩ : ∃ F2, F2 = (fs.tail.headD 0).toNat := ⟨_, rfl⟩
  have hF1r : F1 < 256 := by rw [hF1]; exact UInt8.toNat_lt _
  have hF2r : F2 < 256 := by rw [hF2]; exact UInt8.toNat_lt _
  have e1 : ((F1 : Int) % 2 == 1) = false := by rw [← hF1] at h1; simp; omega
  have HOB := Lib.hid (show ∀ (w' : World), PoolAt w' gp b L → Calls Try.prog 36 #[.pointer (some ⟨gp, 0, none⟩), .agg (bv x).toArray] w' fun e w'' => e = .returned (.tuple #[.string s, .int .i64 0]) ∧ Ext w' w'' from fun w' h' => by have h := pobject_calls gp b L x w' h' hx; rw [hr] at h; exact h)
  have m1 : ((F2 : Int) % 6 == 1) = false := by rw [← hF2] at h2; simp; omega
  have m2 : ((F2 : Int) % 6 == 2) = false := by rw [← hF2] at h2; simp; omega
  have m3 : ((F2 : Int) % 6 == 3) = false := by rw [← hF2] at h2; simp; omega
  have m4 : ((F2 : Int) % 6 == 4) = false := by rw [← hF2] at h2; simp; omega
  have m5 : ((F2 : Int) % 6 == 5) = false := by rw [← hF2] at h2; simp; omega

  have hfa := fun (w' : World) (h' : NetAt B w' n q fs ls (k + 1)) => fate_calls B n q fs ls (k + 1) w' h'
  have hfb := fun (w' : World) (h' : NetAt B w' n q fs.tail ls (k + 1)) => fate_calls B n q fs.tail ls (k + 1) w' h'
  rw [← hF1] at hfa
  rw [← hF2] at hfb
  have HFA := Lib.hid hfa
  have HFB := Lib.hid hfb
  clear hfa hfb hF1 hF2
  have hmeth := obj_method gp 176
  unfold AskC
  go_enter Try.func13, Try.ntmps13
  obtain ⟨w1, hw1⟩ : ∃ w1, w1 = w.alloc (.cells (bv x).toArray 38) := ⟨_, rfl⟩
  have hx1 : Ext w w1 := by rw [hw1]; exact (Ext.refl _).alloc _
  have HI := Lib.hid (show Blk w1 w.heap.size 38 (bv x).toArray from by rw [hw1]; exact Blk.new w _ _)
  have H1 := Lib.hid (h.ext hx1)
  have HP := Lib.hid (hp.ext hx1)
  go_upto_region 1 with (fail)
  rw [← hw1]
  obtain ⟨gi, hgi⟩ : ∃ gi, gi = w.heap.size := ⟨_, rfl⟩
  rw [← hgi] at HI ⊢
  clear hw1 hgi h hp hx
  obtain ⟨fv, qv, hb, hf, hq⟩ := id H1.out
  have c2 : w1.cell? ⟨n, 2, none⟩ = some (.int .i64 k) := by rw [hb.cell]; rfl
  have f2 := hb.frozen 2
  have hg1 := grown_set w1 n 2 (.int .i64 ((k : Int) + 1))
  have HT1 := Lib.hid (show Two w _ n q from (Two.of_ext hx1).trans (Two.one (q := q) hg1) (.inl rfl))
  have HN1 := Lib.hid (NetAt.turn (k' := k + 1) hg1 hb hf hq (hb.set 2 _))
  have HI1 := Lib.hid (Blk.grown HI.out hg1 (fun e => HI.out.ne hb ne_id.1 (Option.some.inj e)))
  have HP1 := Lib.hid (HP.out.two H1.out (Two.one (q := q) hg1))
  clear hb hf hq
  go_wp2_with (first
    | (go_at_call 19; (with_reducible refine (HFA.out _ HN1.out).mono ?_); rintro e w2 ⟨rfl, hN2, ht2⟩; have HN2 := Lib.hid hN2; have HT2 := Lib.hid (HT1.out.trans ht2 (.inl rfl)); have HI2 := Lib.hid (idblk_two HI1.out HN1.out ht2); have HP2 := Lib.hid (HP1.out.two HN1.out ht2); have hcx : ∀ (j : Nat) (v : Value), (bv x)[j]? = some v → w2.cell? ((⟨gi, 0, none⟩ : Addr).add j) = some v := (fun j v hv => by have h := HI2.out.cells; rw [List.toList_toArray] at h; obtain ⟨y, hy, hc⟩ := h j v hv; cases hy; exact hc); clear hN2 ht2)
    | (refine wpList_load_row_ rfl 38 (.tmp 5) rfl ⟨gi, 0, none⟩ rfl (bv x) _ hcx Try.underlying38 rfl (by rw [id_info, bv_length, HX.out]) ?_)
    | (go_at_call 36; (with_reducible refine (HOB.out w2 HP2.out).mono ?_); rintro e w3 ⟨rfl, hx3⟩; have HN3 := Lib.hid (HN2.out.ext hx3); have HT3 := Lib.hid (HT2.out.trans (Two.of_ext (n := n) (q := q) hx3) (.inl rfl)))
    | (go_at_call 19; (with_reducible refine (HFB.out _ HN3.out).mono ?_); rintro e w4 ⟨rfl, hN4, ht4⟩; have HN4 := Lib.hid hN4; have HT4 := Lib.hid (HT3.out.trans ht4 (.inl rfl)); clear hN4 ht4))
  go_ret2
  exact ⟨q, rfl, HN4.out, HT4.out, .inl rfl⟩

set_option maxRecDepth 50000 in
set_option maxHeartbeats 4000000 in
theorem ask_turn0 (B n : Nat) (q : Option Nat) (fs : List UInt8) (ls : List ByteArray) (k : Nat) (w : World) (h : NetAt B w n q fs ls k) (hk : k < 1000000) (hB : B ≤ w.heap.size) (gp b : Nat) (L : List Ent1) (hp : PoolAt w gp b L) (x : List UInt8) (hx : x.length = 33) (h1 : (fs.headD 0).toNat % 2 ≠ 1) (s : ByteArray) (hr : at1 x L = some s) (h2 : (fs.tail.headD 0).toNat % 6 = 2) (hs : s.size = 0) :
    AskC B n q fs ls k w gp x fs.tail.tail ls none := by
  have HX := Lib.hid hx
  obtain ⟨F1, hF1⟩ : ∃ F1, F1 = (fs.headD 0).toNat := ⟨_, rfl⟩
  obtain ⟨F2, hF2⟩ : ∃ F2, F2 = (fs.tail.headD 0).toNat := ⟨_, rfl⟩
  have hF1r : F1 < 256 := by rw [hF1]; exact UInt8.toNat_lt _
  have hF2r : F2 < 256 := by rw [hF2]; exact UInt8.toNat_lt _
  have e1 : ((F1 : Int) % 2 == 1) = false := by rw [← hF1] at h1; simp; omega
  have HOB := Lib.hid (show ∀ (w' : World), PoolAt w' gp b L → Calls Try.prog 36 #[.pointer (some ⟨gp, 0, none⟩), .agg (bv x).toArray] w' fun e w'' => e = .returned (.tuple #[.string s, .int .i64 0]) ∧ Ext w' w'' from fun w' h' => by have h := pobject_calls gp b L x w' h' hx; rw [hr] at h; exact h)
  have m1 : ((F2 : Int) % 6 == 1) = false := by rw [← hF2] at h2; simp; omega
  have m2 : ((F2 : Int) % 6 == 2) = true := by rw [← hF2] at h2; simp; omega
  have hs0 : ((s.size : Int) == 0) = true := by rw [hs]; rfl

  have hfa := fun (w' : World) (h' : NetAt B w' n q fs ls (k + 1)) => fate_calls B n q fs ls (k + 1) w' h'
  have hfb := fun (w' : World) (h' : NetAt B w' n q fs.tail ls (k + 1)) => fate_calls B n q fs.tail ls (k + 1) w' h'
  rw [← hF1] at hfa
  rw [← hF2] at hfb
  have HFA := Lib.hid hfa
  have HFB := Lib.hid hfb
  clear hfa hfb hF1 hF2
  have hmeth := obj_method gp 176
  unfold AskC
  go_enter Try.func13, Try.ntmps13
  obtain ⟨w1, hw1⟩ : ∃ w1, w1 = w.alloc (.cells (bv x).toArray 38) := ⟨_, rfl⟩
  have hx1 : Ext w w1 := by rw [hw1]; exact (Ext.refl _).alloc _
  have HI := Lib.hid (show Blk w1 w.heap.size 38 (bv x).toArray from by rw [hw1]; exact Blk.new w _ _)
  have H1 := Lib.hid (h.ext hx1)
  have HP := Lib.hid (hp.ext hx1)
  go_upto_region 1 with (fail)
  rw [← hw1]
  obtain ⟨gi, hgi⟩ : ∃ gi, gi = w.heap.size := ⟨_, rfl⟩
  rw [← hgi] at HI ⊢
  clear hw1 hgi h hp hx
  obtain ⟨fv, qv, hb, hf, hq⟩ := id H1.out
  have c2 : w1.cell? ⟨n, 2, none⟩ = some (.int .i64 k) := by rw [hb.cell]; rfl
  have f2 := hb.frozen 2
  have hg1 := grown_set w1 n 2 (.int .i64 ((k : Int) + 1))
  have HT1 := Lib.hid (show Two w _ n q from (Two.of_ext hx1).trans (Two.one (q := q) hg1) (.inl rfl))
  have HN1 := Lib.hid (NetAt.turn (k' := k + 1) hg1 hb hf hq (hb.set 2 _))
  have HI1 := Lib.hid (Blk.grown HI.out hg1 (fun e => HI.out.ne hb ne_id.1 (Option.some.inj e)))
  have HP1 := Lib.hid (HP.out.two H1.out (Two.one (q := q) hg1))
  clear hb hf hq
  go_wp2_with (first
    | (go_at_call 19; (with_reducible refine (HFA.out _ HN1.out).mono ?_); rintro e w2 ⟨rfl, hN2, ht2⟩; have HN2 := Lib.hid hN2; have HT2 := Lib.hid (HT1.out.trans ht2 (.inl rfl)); have HI2 := Lib.hid (idblk_two HI1.out HN1.out ht2); have HP2 := Lib.hid (HP1.out.two HN1.out ht2); have hcx : ∀ (j : Nat) (v : Value), (bv x)[j]? = some v → w2.cell? ((⟨gi, 0, none⟩ : Addr).add j) = some v := (fun j v hv => by have h := HI2.out.cells; rw [List.toList_toArray] at h; obtain ⟨y, hy, hc⟩ := h j v hv; cases hy; exact hc); clear hN2 ht2)
    | (refine wpList_load_row_ rfl 38 (.tmp 5) rfl ⟨gi, 0, none⟩ rfl (bv x) _ hcx Try.underlying38 rfl (by rw [id_info, bv_length, HX.out]) ?_)
    | (go_at_call 36; (with_reducible refine (HOB.out w2 HP2.out).mono ?_); rintro e w3 ⟨rfl, hx3⟩; have HN3 := Lib.hid (HN2.out.ext hx3); have HT3 := Lib.hid (HT2.out.trans (Two.of_ext (n := n) (q := q) hx3) (.inl rfl)))
    | (go_at_call 19; (with_reducible refine (HFB.out _ HN3.out).mono ?_); rintro e w4 ⟨rfl, hN4, ht4⟩; have HN4 := Lib.hid hN4; have HT4 := Lib.hid (HT3.out.trans ht4 (.inl rfl)); clear hN4 ht4))
  go_ret2
  exact ⟨q, rfl, HN4.out, HT4.out, .inl rfl⟩
end Go.Proofs.Ythleaofgodkehaa
