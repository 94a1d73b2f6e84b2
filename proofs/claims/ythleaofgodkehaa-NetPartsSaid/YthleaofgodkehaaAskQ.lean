/- net.Net.Ask: the ways in which an answer waits or is turned. Printed by wip/mkask2.py. -/
import Derived.Test.YthleaofgodkehaaAsk
namespace Go.Proofs.Ythleaofgodkehaa
open Go.RowKit
set_option linter.unusedVariables false


set_option maxRecDepth 50000 in
set_option maxHeartbeats 4000000 in
theorem ask_late (B n : Nat) (q : Option Nat) (fs : List UInt8) (ls : List ByteArray) (k : Nat) (w : World) (h : NetAt B w n q fs ls k) (hk : k < 1000000) (hB : B ≤ w.heap.size) (gp b : Nat) (L : List Ent1) (hp : PoolAt w gp b L) (x : List UInt8) (hx : x.length = 33) (h1 : (fs.headD 0).toNat % 2 ≠ 1) (s : ByteArray) (hr : at1 x L = some s) (h2 : (fs.tail.headD 0).toNat % 6 = 3) (hls : ls.length ≤ 100000) :
    AskC B n q fs ls k w gp x fs.tail.tail (ls ++ [s]) none := by
  have HX := Lib.hid hx
  obtain ⟨F1, hF1⟩ : ∃ F1, F1 = (fs.headD 0).toNat := ⟨_, rfl⟩
  obtain ⟨F2, hF2⟩ : ∃ F2, F2 = (fs.tail.headD 0).toNat := ⟨_, rfl⟩
  have hF1r : F1 < 256 := by rw [hF1]; exact UInt8.toNat_lt _
  have hF2r : F2 < 256 := by rw [hF2]; exact UInt8.toNat_lt _
  have e1 : ((F1 : Int) % 2 == 1) = false := by rw [← hF1] at h1; simp; omega
  have HOB := Lib.hid (show ∀ (w' : World), PoolAt w' gp b L → Calls Try.prog 36 #[.pointer (some ⟨gp, 0, none⟩), .agg (bv x).toArray] w' fun e w'' => e = .returned (.tuple #[.string s, .int .i64 0]) ∧ Ext w' w'' from fun w' h' => by have h := pobject_calls gp b L x w' h' hx; rw [hr] at h; exact h)
  have m1 : ((F2 : Int) % 6 == 1) = false := by rw [← hF2] at h2; simp; omega
  have m2 : ((F2 : Int) % 6 == 2) = false := by rw [← hF2] at h2; simp; omega
  have m3 : ((F2 : Int) % 6 == 3) = true := by rw [← hF2] at h2; simp; omega

  have hfa := fun (w' : World) (h' : NetAt B w' n q fs ls (k + 1)) => fate_calls B n q fs ls (k + 1) w' h'
  have hfb := fun (w' : World) (h' : NetAt B w' n q fs.tail ls (k + 1)) => fate_calls B n q fs.tail ls (k + 1) w' h'
  rw [← hF1] at hfa
  rw [← hF2] at hfb
  have HFA := Lib.hid hfa
  have HFB := Lib.hid hfb
  clear hfa hfb hF1 hF2
  have hmeth := obj_method gp 176
  unfold AskC
  go_enter Try.func13, Try.ntmps13
  obtain ⟨w1, hw1⟩ : ∃ w1, w1 = w.alloc (.cells (bv x).toArray 38) := ⟨_, rfl⟩
  have hx1 : Ext w w1 := by rw [hw1]; exact (Ext.refl _).alloc _
  have HI := Lib.hid (show Blk w1 w.heap.size 38 (bv x).toArray from by rw [hw1]; exact Blk.new w _ _)
  have H1 := Lib.hid (h.ext hx1)
  have HP := Lib.hid (hp.ext hx1)
  go_upto_region 1 with (fail)
  rw [← hw1]
  obtain ⟨gi, hgi⟩ : ∃ gi, gi = w.heap.size := ⟨_, rfl⟩
  rw [← hgi] at HI ⊢
  clear hw1 hgi h hp hx
  obtain ⟨fv, qv, hb, hf, hq⟩ := id H1.out
  have c2 : w1.cell? ⟨n, 2, none⟩ = some (.int .i64 k) := by rw [hb.cell]; rfl
  have f2 := hb.frozen 2
  have hg1 := grown_set w1 n 2 (.int .i64 ((k : Int) + 1))
  have HT1 := Lib.hid (show Two w _ n q from (Two.of_ext hx1).trans (Two.one (q := q) hg1) (.inl rfl))
  have HN1 := Lib.hid (NetAt.turn (k' := k + 1) hg1 hb hf hq (hb.set 2 _))
  have HI1 := Lib.hid (Blk.grown HI.out hg1 (fun e => HI.out.ne hb ne_id.1 (Option.some.inj e)))
  have HP1 := Lib.hid (HP.out.two H1.out (Two.one (q := q) hg1))
  clear hb hf hq
  go_wp2_with (first
    | (go_at_call 19; (with_reducible refine (HFA.out _ HN1.out).mono ?_); rintro e w2 ⟨rfl, hN2, ht2⟩; have HN2 := Lib.hid hN2; have HT2 := Lib.hid (HT1.out.trans ht2 (.inl rfl)); have HI2 := Lib.hid (idblk_two HI1.out HN1.out ht2); have HP2 := Lib.hid (HP1.out.two HN1.out ht2); have hcx : ∀ (j : Nat) (v : Value), (bv x)[j]? = some v → w2.cell? ((⟨gi, 0, none⟩ : Addr).add j) = some v := (fun j v hv => by have h := HI2.out.cells; rw [List.toList_toArray] at h; obtain ⟨y, hy, hc⟩ := h j v hv; cases hy; exact hc); clear hN2 ht2)
    | (refine wpList_load_row_ rfl 38 (.tmp 5) rfl ⟨gi, 0, none⟩ rfl (bv x) _ hcx Try.underlying38 rfl (by rw [id_info, bv_length, HX.out]) ?_)
    | (go_at_call 36; (with_reducible refine (HOB.out w2 HP2.out).mono ?_); rintro e w3 ⟨rfl, hx3⟩; have HN3 := Lib.hid (HN2.out.ext hx3); have HT3 := Lib.hid (HT2.out.trans (Two.of_ext (n := n) (q := q) hx3) (.inl rfl)))
    | (go_at_call 19; (with_reducible refine (HFB.out _ HN3.out).mono ?_); rintro e w4 ⟨rfl, hN4, ht4⟩; have HN4 := Lib.hid hN4; have HT4 := Lib.hid (HT3.out.trans ht4 (.inl rfl)); clear hN4 ht4; obtain ⟨fv4, qv4, hb4, hf4, hq4⟩ := id HN4.out; obtain ⟨A4, c4, rfl, _⟩ := hq4.form; have c41 : w4.cell? ⟨n, 1, none⟩ = some (.slice A4 ls.length c4) := (by rw [hb4.cell]; rfl); have HB4 := Lib.hid hb4; have HF4 := Lib.hid hf4; have HQ4 := Lib.hid hq4; clear hb4 hf4 hq4)
    | (at_builtin; refine wpList_append_q rfl (.tmp 76) (.tmp 78) rfl rfl (HQ4.out.ext ((Ext.refl _).alloc (.cells #[.string s] 9))) (Nat.le_trans hB (Nat.le_trans HT4.out.size ((Ext.refl w4).alloc (.cells #[.string s] 9)).size)) ⟨w4.heap.size, 0, none⟩ 1 s rfl (by go_simp) (by omega) ?_; intro v5 w5 q5 hq5 hg5 hqq; have hxl := (Ext.refl w4).alloc (.cells #[.string s] 9); have HB5 := Lib.hid ((HB4.out.ext hxl).grown hg5 (netq_ne HN4.out)); have HF5 := Lib.hid ((HF4.out.ext hxl).grown hg5 (fates_ne (HQ4.out.ext hxl))); have HT5 := Lib.hid ((HT4.out.trans (Two.of_ext (n := n) (q := q) hxl) (.inl rfl)).trans (Two.row (n := n) hg5) (.inl rfl)); have hqq' : q5 = q ∨ ∃ j, q5 = some j ∧ w.heap.size ≤ j := hqq.imp id (fun ⟨j, e, l⟩ => ⟨j, e, Nat.le_trans HT4.out.size (Nat.le_trans hxl.size l)⟩); obtain ⟨A5, c5, rfl, _⟩ := hq5.form; rw [show (ls ++ [s]).length = ls.length + 1 from List.length_append] at hq5 ⊢; have f5 := HB5.out.frozen 1; have c51 : w5.cell? ⟨n, 1, none⟩ = some (.slice A4 ls.length c4) := (by rw [HB5.out.cell]; rfl); have HQ5 := Lib.hid hq5; clear hq5 hg5 hqq hxl))
  go_ret2
  exact ⟨q5, rfl, NetAt.turn (grown_set w5 n 1 _) HB5.out HF5.out HQ5.out (HB5.out.set 1 _), HT5.out.trans (Two.one (q := q) (grown_set w5 n 1 _)) (.inl rfl), hqq'⟩

set_option maxRecDepth 50000 in
set_option maxHeartbeats 4000000 in
theorem ask_twice (B n : Nat) (q : Option Nat) (fs : List UInt8) (ls : List ByteArray) (k : Nat) (w : World) (h : NetAt B w n q fs ls k) (hk : k < 1000000) (hB : B ≤ w.heap.size) (gp b : Nat) (L : List Ent1) (hp : PoolAt w gp b L) (x : List UInt8) (hx : x.length = 33) (h1 : (fs.headD 0).toNat % 2 ≠ 1) (s : ByteArray) (hr : at1 x L = some s) (h2 : (fs.tail.headD 0).toNat % 6 = 5) (hls : ls.length ≤ 100000) :
    AskC B n q fs ls k w gp x fs.tail.tail (ls ++ [s]) (some s) := by
  have HX := Lib.hid hx
  obtain ⟨F1, hF1⟩ : ∃ F1, F1 = (fs.headD 0).toNat := ⟨_, rfl⟩
  obtain ⟨F2, hF2⟩ : ∃ F2, F2 = (fs.tail.headD 0).toNat := ⟨_, rfl⟩
  have hF1r : F1 < 256 := by rw [hF1]; exact UInt8.toNat_lt _
  have hF2r : F2 < 256 := by rw [hF2]; exact UInt8.toNat_lt _
  have e1 : ((F1 : Int) % 2 == 1) = false := by rw [← hF1] at h1; simp; omega
  have HOB := Lib.hid (show ∀ (w' : World), PoolAt w' gp b L → Calls Try.prog 36 #[.pointer (some ⟨gp, 0, none⟩), .agg (bv x).toArray] w' fun e w'' => e = .returned (.tuple #[.string s, .int .i64 0]) ∧ Ext w' w'' from fun w' h' => by have h := pobject_calls gp b L x w' h' hx; rw [hr] at h; exact h)
  have m1 : ((F2 : Int) % 6 == 1) = false := by rw [← hF2] at h2; simp; omega
  have m2 : ((F2 : Int) % 6 == 2) = false := by rw [← hF2] at h2; simp; omega
  have m3 : ((F2 : Int) % 6 == 3) = false := by rw [← hF2] at h2; simp; omega
  have m4 : ((F2 : Int) % 6 == 4) = false := by rw [← hF2] at h2; simp; omega
  have m5 : ((F2 : Int) % 6 == 5) = true := by rw [← hF2] at h2; simp; omega

  have hfa := fun (w' : World) (h' : NetAt B w' n q fs ls (k + 1)) => fate_calls B n q fs ls (k + 1) w' h'
  have hfb := fun (w' : World) (h' : NetAt B w' n q fs.tail ls (k + 1)) => fate_calls B n q fs.tail ls (k + 1) w' h'
  rw [← hF1] at hfa
  rw [← hF2] at hfb
  have HFA := Lib.hid hfa
  have HFB := Lib.hid hfb
  clear hfa hfb hF1 hF2
  have hmeth := obj_method gp 176
  unfold AskC
  go_enter Try.func13, Try.ntmps13
  obtain ⟨w1, hw1⟩ : ∃ w1, w1 = w.alloc (.cells (bv x).toArray 38) := ⟨_, rfl⟩
  have hx1 : Ext w w1 := by rw [hw1]; exact (Ext.refl _).alloc _
  have HI := Lib.hid (show Blk w1 w.heap.size 38 (bv x).toArray from by rw [hw1]; exact Blk.new w _ _)
  have H1 := Lib.hid (h.ext hx1)
  have HP := Lib.hid (hp.ext hx1)
  go_upto_region 1 with (fail)
  rw [← hw1]
  obtain ⟨gi, hgi⟩ : ∃ gi, gi = w.heap.size := ⟨_, rfl⟩
  rw [← hgi] at HI ⊢
  clear hw1 hgi h hp hx
  obtain ⟨fv, qv, hb, hf, hq⟩ := id H1.out
  have c2 : w1.cell? ⟨n, 2, none⟩ = some (.int .i64 k) := by rw [hb.cell]; rfl
  have f2 := hb.frozen 2
  have hg1 := grown_set w1 n 2 (.int .i64 ((k : Int) + 1))
  have HT1 := Lib.hid (show Two w _ n q from (Two.of_ext hx1).trans (Two.one (q := q) hg1) (.inl rfl))
  have HN1 := Lib.hid (NetAt.turn (k' := k + 1) hg1 hb hf hq (hb.set 2 _))
  have HI1 := Lib.hid (Blk.grown HI.out hg1 (fun e => HI.out.ne hb ne_id.1 (Option.some.inj e)))
  have HP1 := Lib.hid (HP.out.two H1.out (Two.one (q := q) hg1))
  clear hb hf hq
  go_wp2_with (first
    | (go_at_call 19; (with_reducible refine (HFA.out _ HN1.out).mono ?_); rintro e w2 ⟨rfl, hN2, ht2⟩; have HN2 := Lib.hid hN2; have HT2 := Lib.hid (HT1.out.trans ht2 (.inl rfl)); have HI2 := Lib.hid (idblk_two HI1.out HN1.out ht2); have HP2 := Lib.hid (HP1.out.two HN1.out ht2); have hcx : ∀ (j : Nat) (v : Value), (bv x)[j]? = some v → w2.cell? ((⟨gi, 0, none⟩ : Addr).add j) = some v := (fun j v hv => by have h := HI2.out.cells; rw [List.toList_toArray] at h; obtain ⟨y, hy, hc⟩ := h j v hv; cases hy; exact hc); clear hN2 ht2)
    | (refine wpList_load_row_ rfl 38 (.tmp 5) rfl ⟨gi, 0, none⟩ rfl (bv x) _ hcx Try.underlying38 rfl (by rw [id_info, bv_length, HX.out]) ?_)
    | (go_at_call 36; (with_reducible refine (HOB.out w2 HP2.out).mono ?_); rintro e w3 ⟨rfl, hx3⟩; have HN3 := Lib.hid (HN2.out.ext hx3); have HT3 := Lib.hid (HT2.out.trans (Two.of_ext (n := n) (q := q) hx3) (.inl rfl)))
    | (go_at_call 19; (with_reducible refine (HFB.out _ HN3.out).mono ?_); rintro e w4 ⟨rfl, hN4, ht4⟩; have HN4 := Lib.hid hN4; have HT4 := Lib.hid (HT3.out.trans ht4 (.inl rfl)); clear hN4 ht4; obtain ⟨fv4, qv4, hb4, hf4, hq4⟩ := id HN4.out; obtain ⟨A4, c4, rfl, _⟩ := hq4.form; have c41 : w4.cell? ⟨n, 1, none⟩ = some (.slice A4 ls.length c4) := (by rw [hb4.cell]; rfl); have HB4 := Lib.hid hb4; have HF4 := Lib.hid hf4; have HQ4 := Lib.hid hq4; clear hb4 hf4 hq4)
    | (at_builtin; refine wpList_append_q rfl (.tmp 114) (.tmp 116) rfl rfl (HQ4.out.ext ((Ext.refl _).alloc (.cells #[.string s] 9))) (Nat.le_trans hB (Nat.le_trans HT4.out.size ((Ext.refl w4).alloc (.cells #[.string s] 9)).size)) ⟨w4.heap.size, 0, none⟩ 1 s rfl (by go_simp) (by omega) ?_; intro v5 w5 q5 hq5 hg5 hqq; have hxl := (Ext.refl w4).alloc (.cells #[.string s] 9); have HB5 := Lib.hid ((HB4.out.ext hxl).grown hg5 (netq_ne HN4.out)); have HF5 := Lib.hid ((HF4.out.ext hxl).grown hg5 (fates_ne (HQ4.out.ext hxl))); have HT5 := Lib.hid ((HT4.out.trans (Two.of_ext (n := n) (q := q) hxl) (.inl rfl)).trans (Two.row (n := n) hg5) (.inl rfl)); have hqq' : q5 = q ∨ ∃ j, q5 = some j ∧ w.heap.size ≤ j := hqq.imp id (fun ⟨j, e, l⟩ => ⟨j, e, Nat.le_trans HT4.out.size (Nat.le_trans hxl.size l)⟩); obtain ⟨A5, c5, rfl, _⟩ := hq5.form; rw [show (ls ++ [s]).length = ls.length + 1 from List.length_append] at hq5 ⊢; have f5 := HB5.out.frozen 1; have c51 : w5.cell? ⟨n, 1, none⟩ = some (.slice A4 ls.length c4) := (by rw [HB5.out.cell]; rfl); have HQ5 := Lib.hid hq5; clear hq5 hg5 hqq hxl))
  go_ret2
  exact ⟨q5, rfl, NetAt.turn (grown_set w5 n 1 _) HB5.out HF5.out HQ5.out (HB5.out.set 1 _), HT5.out.trans (Two.one (q := q) (grown_set w5 n 1 _)) (.inl rfl), hqq'⟩

set_option maxRecDepth 50000 in
set_option maxHeartbeats 4000000 in
theorem ask_elder (B n : Nat) (q : Option Nat) (fs : List UInt8) (ls : List ByteArray) (k : Nat) (w : World) (h : NetAt B w n q fs ls k) (hk : k < 1000000) (hB : B ≤ w.heap.size) (gp b : Nat) (L : List Ent1) (hp : PoolAt w gp b L) (x : List UInt8) (hx : x.length = 33) (h1 : (fs.headD 0).toNat % 2 ≠ 1) (s : ByteArray) (hr : at1 x L = some s) (h2 : (fs.tail.headD 0).toNat % 6 = 4) (hls : ls.length ≤ 100000) :
    AskC B n q fs ls k w gp x fs.tail.tail (ls ++ [s]).tail (ls ++ [s]).head? := by
  have HX := Lib.hid hx
  obtain ⟨F1, hF1⟩ : ∃ F1, F1 = (fs.headD 0).toNat := ⟨_, rfl⟩
  obtain ⟨F2, hF2⟩ : ∃ F2, F2 = (fs.tail.headD 0).toNat := ⟨_, rfl⟩
  have hF1r : F1 < 256 := by rw [hF1]; exact UInt8.toNat_lt _
  have hF2r : F2 < 256 := by rw [hF2]; exact UInt8.toNat_lt _
  have e1 : ((F1 : Int) % 2 == 1) = false := by rw [← hF1] at h1; simp; omega
  have HOB := Lib.hid (show ∀ (w' : World), PoolAt w' gp b L → Calls Try.prog 36 #[.pointer (some ⟨gp, 0, none⟩), .agg (bv x).toArray] w' fun e w'' => e = .returned (.tuple #[.string s, .int .i64 0]) ∧ Ext w' w'' from fun w' h' => by have h := pobject_calls gp b L x w' h' hx; rw [hr] at h; exact h)
  have m1 : ((F2 : Int) % 6 == 1) = false := by rw [← hF2] at h2; simp; omega
  have m2 : ((F2 : Int) % 6 == 2) = false := by rw [← hF2] at h2; simp; omega
  have m3 : ((F2 : Int) % 6 == 3) = false := by rw [← hF2] at h2; simp; omega
  have m4 : ((F2 : Int) % 6 == 4) = true := by rw [← hF2] at h2; simp; omega

  have hfa := fun (w' : World) (h' : NetAt B w' n q fs ls (k + 1)) => fate_calls B n q fs ls (k + 1) w' h'
  have hfb := fun (w' : World) (h' : NetAt B w' n q fs.tail ls (k + 1)) => fate_calls B n q fs.tail ls (k + 1) w' h'
  rw [← hF1] at hfa
  rw [← hF2] at hfb
  have HFA := Lib.hid hfa
  have HFB := Lib.hid hfb
  clear hfa hfb hF1 hF2
  have hmeth := obj_method gp 176
  unfold AskC
  go_enter Try.func13, Try.ntmps13
  obtain ⟨w1, hw1⟩ : ∃ w1, w1 = w.alloc (.cells (bv x).toArray 38) := ⟨_, rfl⟩
  have hx1 : Ext w w1 := by rw [hw1]; exact (Ext.refl _).alloc _
  have HI := Lib.hid (show Blk w1 w.heap.size 38 (bv x).toArray from by rw [hw1]; exact Blk.new w _ _)
  have H1 := Lib.hid (h.ext hx1)
  have HP := Lib.hid (hp.ext hx1)
  go_upto_region 1 with (fail)
  rw [← hw1]
  obtain ⟨gi, hgi⟩ : ∃ gi, gi = w.heap.size := ⟨_, rfl⟩
  rw [← hgi] at HI ⊢
  clear hw1 hgi h hp hx
  obtain ⟨fv, qv, hb, hf, hq⟩ := id H1.out
  have c2 : w1.cell? ⟨n, 2, none⟩ = some (.int .i64 k) := by rw [hb.cell]; rfl
  have f2 := hb.frozen 2
  have hg1 := grown_set w1 n 2 (.int .i64 ((k : Int) + 1))
  have HT1 := Lib.hid (show Two w _ n q from (Two.of_ext hx1).trans (Two.one (q := q) hg1) (.inl rfl))
  have HN1 := Lib.hid (NetAt.turn (k' := k + 1) hg1 hb hf hq (hb.set 2 _))
  have HI1 := Lib.hid (Blk.grown HI.out hg1 (fun e => HI.out.ne hb ne_id.1 (Option.some.inj e)))
  have HP1 := Lib.hid (HP.out.two H1.out (Two.one (q := q) hg1))
  clear hb hf hq
  go_upto_region 25 with (first
    | (go_at_call 19; (with_reducible refine (HFA.out _ HN1.out).mono ?_); rintro e w2 ⟨rfl, hN2, ht2⟩; have HN2 := Lib.hid hN2; have HT2 := Lib.hid (HT1.out.trans ht2 (.inl rfl)); have HI2 := Lib.hid (idblk_two HI1.out HN1.out ht2); have HP2 := Lib.hid (HP1.out.two HN1.out ht2); have hcx : ∀ (j : Nat) (v : Value), (bv x)[j]? = some v → w2.cell? ((⟨gi, 0, none⟩ : Addr).add j) = some v := (fun j v hv => by have h := HI2.out.cells; rw [List.toList_toArray] at h; obtain ⟨y, hy, hc⟩ := h j v hv; cases hy; exact hc); clear hN2 ht2)
    | (refine wpList_load_row_ rfl 38 (.tmp 5) rfl ⟨gi, 0, none⟩ rfl (bv x) _ hcx Try.underlying38 rfl (by rw [id_info, bv_length, HX.out]) ?_)
    | (go_at_call 36; (with_reducible refine (HOB.out w2 HP2.out).mono ?_); rintro e w3 ⟨rfl, hx3⟩; have HN3 := Lib.hid (HN2.out.ext hx3); have HT3 := Lib.hid (HT2.out.trans (Two.of_ext (n := n) (q := q) hx3) (.inl rfl)))
    | (go_at_call 19; (with_reducible refine (HFB.out _ HN3.out).mono ?_); rintro e w4 ⟨rfl, hN4, ht4⟩; have HN4 := Lib.hid hN4; have HT4 := Lib.hid (HT3.out.trans ht4 (.inl rfl)); clear hN4 ht4; obtain ⟨fv4, qv4, hb4, hf4, hq4⟩ := id HN4.out; obtain ⟨A4, c4, rfl, _⟩ := hq4.form; have c41 : w4.cell? ⟨n, 1, none⟩ = some (.slice A4 ls.length c4) := (by rw [hb4.cell]; rfl); have HB4 := Lib.hid hb4; have HF4 := Lib.hid hf4; have HQ4 := Lib.hid hq4; clear hb4 hf4 hq4)
    | (at_builtin; refine wpList_append_q rfl (.tmp 88) (.tmp 90) rfl rfl (HQ4.out.ext ((Ext.refl _).alloc (.cells #[.string s] 9))) (Nat.le_trans hB (Nat.le_trans HT4.out.size ((Ext.refl w4).alloc (.cells #[.string s] 9)).size)) ⟨w4.heap.size, 0, none⟩ 1 s rfl (by go_simp) (by omega) ?_; intro v5 w5 q5 hq5 hg5 hqq; have hxl := (Ext.refl w4).alloc (.cells #[.string s] 9); have HB5 := Lib.hid ((HB4.out.ext hxl).grown hg5 (netq_ne HN4.out)); have HF5 := Lib.hid ((HF4.out.ext hxl).grown hg5 (fates_ne (HQ4.out.ext hxl))); have HT5 := Lib.hid ((HT4.out.trans (Two.of_ext (n := n) (q := q) hxl) (.inl rfl)).trans (Two.row (n := n) hg5) (.inl rfl)); have hqq' : q5 = q ∨ ∃ j, q5 = some j ∧ w.heap.size ≤ j := hqq.imp id (fun ⟨j, e, l⟩ => ⟨j, e, Nat.le_trans HT4.out.size (Nat.le_trans hxl.size l)⟩); obtain ⟨A5, c5, rfl, _⟩ := hq5.form; rw [show (ls ++ [s]).length = ls.length + 1 from List.length_append] at hq5 ⊢; have f5 := HB5.out.frozen 1; have c51 : w5.cell? ⟨n, 1, none⟩ = some (.slice A4 ls.length c4) := (by rw [HB5.out.cell]; rfl); have HQ5 := Lib.hid hq5; clear hq5 hg5 hqq hxl))
  obtain ⟨w6, hw6⟩ : ∃ w6, w6 = w5.setCell ⟨n, 1, none⟩ (.slice A5 (ls.length + 1) c5) := ⟨_, rfl⟩
  rw [← hw6]
  have hg6 : w5.grownBy w6 (some n) := by rw [hw6]; exact grown_set w5 n 1 _
  have HB6 := Lib.hid (show Blk w6 n 54 #[fv4, .slice A5 (ls.length + 1) c5, .int .i64 ((k + 1 : Nat) : Int)] from by rw [hw6]; exact HB5.out.set 1 _)
  have HN6 := Lib.hid (NetAt.turn (k' := k + 1) hg6 HB5.out HF5.out HQ5.out HB6.out)
  have HT6 := Lib.hid (HT5.out.trans (Two.one (q := q) hg6) (.inl rfl))
  have HQ6 := Lib.hid (HQ5.out.grown hg6 (fun j hj e => netq_ne HN6.out (by rw [hj, ← e])))
  have HF6 := Lib.hid (HF5.out.grown hg6 (fun j cur hj e => HB5.out.ne hj (Ne.symm ne_types.1.1) (Option.some.inj e).symm))
  clear hw6 HQ5 HF5 HB5
  obtain ⟨M, ys, y, hM, hys⟩ : ∃ (M : Nat) (ys : List ByteArray) (y : ByteArray), ys.length = M ∧ ls ++ [s] = y :: ys := by
    cases hl : ls ++ [s] with
    | nil => simp at hl
    | cons y ys => exact ⟨_, ys, y, rfl, rfl⟩
  have hlM : ls.length = M := by have := congrArg List.length hys; simp at this; omega
  rw [hys] at HQ6
  rw [hlM] at HQ6 HB6
  have c61 : w6.cell? ⟨n, 1, none⟩ = some (.slice A5 (M + 1) c5) := by rw [HB6.out.cell]; rfl
  obtain ⟨a6, c6', e6, hfirst⟩ := HQ6.out.first
  simp only [Value.slice.injEq] at e6
  obtain ⟨rfl, _, rfl⟩ := e6
  obtain ⟨A7, c7, hrest, hq7⟩ := HQ6.out.rest .i64
  rw [hM] at hrest hq7
  have HQ7 := Lib.hid hq7
  clear hq7
  have HO : (ls ++ [s]).tail = ys ∧ (ls ++ [s]).head? = some y := by rw [hys]; exact ⟨rfl, rfl⟩
  refine wp_region_opsL2 (FInv [94, 95, 96, 97, 98, 99, 100, 101, 102, 103, 104, 105, 9, 106, 107] _ w6.drew [⟨0, none, 94, .val (.pointer (some ⟨n, 0, none⟩))⟩, ⟨1, none, 95, .val (.pointer (some ⟨n, 0, none⟩))⟩, ⟨2, none, 96, .val (.pointer (some ⟨n, 0, none⟩))⟩, ⟨3, none, 97, .val (.pointer (some ⟨n, 1, none⟩))⟩, ⟨4, none, 98, .val (.slice (some a6) (M + 1) c5)⟩, ⟨5, none, 99, .val (.pointer (some a6))⟩, ⟨6, none, 100, .val (.string y)⟩, ⟨7, none, 101, .val (.pointer (some ⟨n, 0, none⟩))⟩, ⟨8, none, 102, .val (.pointer (some ⟨n, 0, none⟩))⟩, ⟨9, none, 103, .val (.pointer (some ⟨n, 1, none⟩))⟩, ⟨10, none, 104, .val (.slice (some a6) (M + 1) c5)⟩, ⟨11, none, 105, .val (.slice A7 M c7)⟩, ⟨12, none, 9, .val (.string y)⟩, ⟨13, none, 106, .val (.pointer (some ⟨n, 0, none⟩))⟩, ⟨14, none, 107, .val (.pointer (some ⟨n, 1, none⟩))⟩]) 15 (by kernel_rfl) (by kernel_rfl) rfl (by kernel_rfl) FInv.start ?_ ?_
  · refine ⟨?o0, ?o1, ?o2, ?o3, ?o4, ?o5, ?o6, ?o7, ?o8, ?o9, ?o10, ?o11, ?o12, ?o13, ?o14, trivial⟩
    case o0 =>
      intro f a u h hfi hp hq hcl
      have q0 : a.tmps[0]?.getD undef = .pointer (some ⟨n, 0, none⟩) := h.agree.att (by decide)
      exact h.yieldG rfl (wanted_none rfl) 94 rfl (by change 94 < 121; decide) rfl _ rfl (by go_simp)
    case o1 =>
      intro f a u h hfi hp hq hcl
      have q0 : a.tmps[0]?.getD undef = .pointer (some ⟨n, 0, none⟩) := h.agree.att (by decide)
      exact h.yieldG rfl (wanted_none rfl) 95 rfl (by change 95 < 121; decide) rfl _ rfl (by go_simp)
    case o2 =>
      intro f a u h hfi hp hq hcl
      have q95 := h.att 1 rfl (pre_of hp 1 rfl)
      exact h.yieldG rfl (wanted_none rfl) 96 rfl (by change 96 < 121; decide) rfl _ rfl (by go_simp)
    case o3 =>
      intro f a u h hfi hp hq hcl
      have q96 := h.att 2 rfl (pre_of hp 2 rfl)
      exact h.yieldG rfl (wanted_none rfl) 97 rfl (by change 97 < 121; decide) rfl _ rfl (by go_simp)
    case o4 =>
      intro f a u h hfi hp hq hcl
      have hyu : Ext w6 u := ((Ext.refl w6).drew).trans h.ext
      have hcu := hyu.cell c61
      have q97 := h.att 3 rfl (pre_of hp 3 rfl)
      exact h.yieldG rfl (wanted_none rfl) 98 rfl (by change 98 < 121; decide) rfl _ rfl (by go_simp)
    case o5 =>
      intro f a u h hfi hp hq hcl
      
      have q98 := h.att 4 rfl (pre_of hp 4 rfl)
      exact h.yieldG rfl (wanted_none rfl) 99 rfl (by change 99 < 121; decide) rfl _ rfl (by go_simp)
    case o6 =>
      intro f a u h hfi hp hq hcl
      have hyu : Ext w6 u := ((Ext.refl w6).drew).trans h.ext
      have hcu := hyu.cell hfirst
      have q99 := h.att 5 rfl (pre_of hp 5 rfl)
      exact h.yieldG rfl (wanted_none rfl) 100 rfl (by change 100 < 121; decide) rfl _ rfl (by go_simp)
    case o7 =>
      intro f a u h hfi hp hq hcl
      have q0 : a.tmps[0]?.getD undef = .pointer (some ⟨n, 0, none⟩) := h.agree.att (by decide)
      exact h.yieldG rfl (wanted_none rfl) 101 rfl (by change 101 < 121; decide) rfl _ rfl (by go_simp)
    case o8 =>
      intro f a u h hfi hp hq hcl
      have q101 := h.att 7 rfl (pre_of hp 7 rfl)
      exact h.yieldG rfl (wanted_none rfl) 102 rfl (by change 102 < 121; decide) rfl _ rfl (by go_simp)
    case o9 =>
      intro f a u h hfi hp hq hcl
      have q102 := h.att 8 rfl (pre_of hp 8 rfl)
      exact h.yieldG rfl (wanted_none rfl) 103 rfl (by change 103 < 121; decide) rfl _ rfl (by go_simp)
    case o10 =>
      intro f a u h hfi hp hq hcl
      have hyu : Ext w6 u := ((Ext.refl w6).drew).trans h.ext
      have hcu := hyu.cell c61
      have q103 := h.att 9 rfl (pre_of hp 9 rfl)
      exact h.yieldG rfl (wanted_none rfl) 104 rfl (by change 104 < 121; decide) rfl _ rfl (by go_simp)
    case o11 =>
      intro f a u h hfi hp hq hcl
      exact h.yieldG rfl (wanted_none rfl) 105 rfl (by change 105 < 121; decide) rfl _ rfl (run_of_sem rfl (by rw [h.at_ 10 rfl (pre_of hp 10 rfl)]; exact hrest u))
    case o12 =>
      intro f a u h hfi hp hq hcl
      have q100 := h.att 6 rfl (pre_of hp 6 rfl)
      exact h.yieldG rfl (wanted_none rfl) 9 rfl (by change 9 < 121; decide) rfl _ rfl (by go_simp)
    case o13 =>
      intro f a u h hfi hp hq hcl
      have q94 := h.att 0 rfl (pre_of hp 0 rfl)
      exact h.yieldG rfl (wanted_none rfl) 106 rfl (by change 106 < 121; decide) rfl _ rfl (by go_simp)
    case o14 =>
      intro f a u h hfi hp hq hcl
      have q106 := h.att 13 rfl (pre_of hp 13 rfl)
      exact h.yieldG rfl (wanted_none rfl) 107 rfl (by change 107 < 121; decide) rfl _ rfl (by go_simp)
  · intro f a u h hall
    have hyu : Ext w6 u := ((Ext.refl w6).drew).trans h.ext
    have e9 := h.at_ 12 rfl (hall 12 (by decide))
    have e105 := h.at_ 11 rfl (hall 11 (by decide))
    have e107 := h.at_ 14 rfl (hall 14 (by decide))
    have HU := Lib.hid (HB6.out.ext hyu)
    have f7 := HU.out.frozen 1
    have c71 : u.cell? ⟨n, 1, none⟩ = some (.slice (some a6) (M + 1) c5) := (by rw [HU.out.cell]; rfl)
    refine wpOp_of rfl rfl (wp_st 33 (.tmp 107) (.tmp 105) rfl rfl e107 e105 (w' := u.setCell ⟨n, 1, none⟩ (.slice A7 M c7)) (by go_simp) ?_)
    have hag := h.agree.out
    simp only [List.foldl_cons, List.foldl_nil, Act.put, List.setIfInBounds_toArray, List.set_cons_zero, List.set_cons_succ, e9] at hag
    generalize a.eval (.tmp 94) = y94 at hag
    generalize a.eval (.tmp 95) = y95 at hag
    generalize a.eval (.tmp 96) = y96 at hag
    generalize a.eval (.tmp 97) = y97 at hag
    generalize a.eval (.tmp 98) = y98 at hag
    generalize a.eval (.tmp 99) = y99 at hag
    generalize a.eval (.tmp 100) = y100 at hag
    generalize a.eval (.tmp 101) = y101 at hag
    generalize a.eval (.tmp 102) = y102 at hag
    generalize a.eval (.tmp 103) = y103 at hag
    generalize a.eval (.tmp 104) = y104 at hag
    generalize a.eval (.tmp 105) = y105 at hag
    generalize a.eval (.tmp 106) = y106 at hag
    generalize a.eval (.tmp 107) = y107 at hag
    clear h hall e9
    subst hag
    go_wp2
    go_ret2
    rw [HO.1, HO.2]
    exact ⟨q5, rfl, NetAt.turn (k' := k + 1) (grown_set u n 1 _) HU.out (HF6.out.ext hyu) (HQ7.out.ext hyu) (HU.out.set 1 _), (HT6.out.trans (Two.of_ext (n := n) (q := q) hyu) (.inl rfl)).trans (Two.one (q := q) (grown_set u n 1 _)) (.inl rfl), hqq'⟩
end Go.Proofs.Ythleaofgodkehaa
