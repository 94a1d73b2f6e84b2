/- The reference's Ask: what comes, one theorem a way. Printed by wip/mkrask.py. -/
import Derived.Test.YthleaofgodkehaaRefNet
namespace Go.Proofs.Ythleaofgodkehaa
open Go.RowKit
set_option linter.unusedVariables false

def RAskC (B m : Nat) (r : Option Nat) (k : Nat) (w : World) (D : ByteArray) (has : Bool) (fs' : List UInt8) (ls' : List ByteArray) (o : Option ByteArray) : Prop :=
  Calls Try.prog 15 #[.pointer (some ⟨m, 0, none⟩), .string D, .bool has] w fun e w' => ∃ r', e = .returned (outV o) ∧ RNetAt B w' m r' fs' ls' (k + 1) ∧ w.grownBy w' (some m) ∧ (r' = r ∨ ∃ j, r' = some j ∧ w.heap.size ≤ j)
theorem Ext.gb {w w' : World} (h : Ext w w') (row : Option Nat) : w.grownBy w' row := ⟨h.os, h.tape, h.output, h.size, fun j hj _ => h.block j hj⟩


set_option maxRecDepth 50000 in
set_option maxHeartbeats 4000000 in
theorem rask_odd (B m : Nat) (r : Option Nat) (fs : List UInt8) (ls : List ByteArray) (k : Nat) (w : World) (h : RNetAt B w m r fs ls k) (hk : k < 1000000) (hB : B ≤ w.heap.size) (h1 : (fs.headD 0).toNat % 2 = 1) (D : ByteArray) (has : Bool) :
    RAskC B m r k w D has fs.tail ls none := by
  obtain ⟨F1, hF1⟩ : ∃ F1, F1 = (fs.headD 0).toNat := ⟨_, rfl⟩
  obtain ⟨F2, hF2⟩ : ∃ F2, F2 = (fs.tail.headD 0).toNat := ⟨_, rfl⟩
  have hF1r : F1 < 256 := by rw [hF1]; exact UInt8.toNat_lt _
  have hF2r : F2 < 256 := by rw [hF2]; exact UInt8.toNat_lt _
  have e1 : ((F1 : Int) % 2 == 1) = true := by rw [← hF1] at h1; simp; omega

  have hfa := fun (w' : World) (h' : RNetAt B w' m r fs ls (k + 1)) => rfate_calls B m r fs ls (k + 1) w' h'
  have hfb := fun (w' : World) (h' : RNetAt B w' m r fs.tail ls (k + 1)) => rfate_calls B m r fs.tail ls (k + 1) w' h'
  rw [← hF1] at hfa
  rw [← hF2] at hfb
  have HFA := Lib.hid hfa
  have HFB := Lib.hid hfb
  clear hfa hfb hF1 hF2
  unfold RAskC
  obtain ⟨fv, A, c, hb, hf, hq, hr⟩ := id h
  have c2 : w.cell? ⟨m, 2, none⟩ = some (.int .i64 k) := by rw [hb.cell]; rfl
  have f2 := hb.frozen 2
  have hg1 := grown_set w m 2 (.int .i64 ((k : Int) + 1))
  have HG1 := Lib.hid hg1
  have HN1 := Lib.hid (RNetAt.turn (k' := k + 1) hg1 hb hf hq hr (hb.set 2 _))
  clear hb hf hq hr hg1
  go_enter Try.func15, Try.ntmps15
  go_wp2_with (first
    | (go_at_call 20; (with_reducible refine (HFA.out _ HN1.out).mono ?_); rintro e w2 ⟨rfl, hN2, ht2⟩; have HN2 := Lib.hid hN2; have HG2 := Lib.hid (HG1.out.trans ht2); clear hN2 ht2))
  go_ret2
  exact ⟨r, rfl, HN2.out, HG2.out, .inl rfl⟩

set_option maxRecDepth 50000 in
set_option maxHeartbeats 4000000 in
theorem rask_none (B m : Nat) (r : Option Nat) (fs : List UInt8) (ls : List ByteArray) (k : Nat) (w : World) (h : RNetAt B w m r fs ls k) (hk : k < 1000000) (hB : B ≤ w.heap.size) (h1 : (fs.headD 0).toNat % 2 ≠ 1) (D : ByteArray) :
    RAskC B m r k w D false fs.tail ls none := by
  obtain ⟨F1, hF1⟩ : ∃ F1, F1 = (fs.headD 0).toNat := ⟨_, rfl⟩
  obtain ⟨F2, hF2⟩ : ∃ F2, F2 = (fs.tail.headD 0).toNat := ⟨_, rfl⟩
  have hF1r : F1 < 256 := by rw [hF1]; exact UInt8.toNat_lt _
  have hF2r : F2 < 256 := by rw [hF2]; exact UInt8.toNat_lt _
  have e1 : ((F1 : Int) % 2 == 1) = false := by rw [← hF1] at h1; simp; omega

  have hfa := fun (w' : World) (h' : RNetAt B w' m r fs ls (k + 1)) => rfate_calls B m r fs ls (k + 1) w' h'
  have hfb := fun (w' : World) (h' : RNetAt B w' m r fs.tail ls (k + 1)) => rfate_calls B m r fs.tail ls (k + 1) w' h'
  rw [← hF1] at hfa
  rw [← hF2] at hfb
  have HFA := Lib.hid hfa
  have HFB := Lib.hid hfb
  clear hfa hfb hF1 hF2
  unfold RAskC
  obtain ⟨fv, A, c, hb, hf, hq, hr⟩ := id h
  have c2 : w.cell? ⟨m, 2, none⟩ = some (.int .i64 k) := by rw [hb.cell]; rfl
  have f2 := hb.frozen 2
  have hg1 := grown_set w m 2 (.int .i64 ((k : Int) + 1))
  have HG1 := Lib.hid hg1
  have HN1 := Lib.hid (RNetAt.turn (k' := k + 1) hg1 hb hf hq hr (hb.set 2 _))
  clear hb hf hq hr hg1
  go_enter Try.func15, Try.ntmps15
  go_wp2_with (first
    | (go_at_call 20; (with_reducible refine (HFA.out _ HN1.out).mono ?_); rintro e w2 ⟨rfl, hN2, ht2⟩; have HN2 := Lib.hid hN2; have HG2 := Lib.hid (HG1.out.trans ht2); clear hN2 ht2))
  go_ret2
  exact ⟨r, rfl, HN2.out, HG2.out, .inl rfl⟩

set_option maxRecDepth 50000 in
set_option maxHeartbeats 4000000 in
theorem rask_lost (B m : Nat) (r : Option Nat) (fs : List UInt8) (ls : List ByteArray) (k : Nat) (w : World) (h : RNetAt B w m r fs ls k) (hk : k < 1000000) (hB : B ≤ w.heap.size) (h1 : (fs.headD 0).toNat % 2 ≠ 1) (s : ByteArray) (h2 : (fs.tail.headD 0).toNat % 6 = 1) :
    RAskC B m r k w s true fs.tail.tail ls none := by
  obtain ⟨F1, hF1⟩ : ∃ F1, F1 = (fs.headD 0).toNat := ⟨_, rfl⟩
  obtain ⟨F2, hF2⟩ : ∃ F2, F2 = (fs.tail.headD 0).toNat := ⟨_, rfl⟩
  have hF1r : F1 < 256 := by rw [hF1]; exact UInt8.toNat_lt _
  have hF2r : F2 < 256 := by rw [hF2]; exact UInt8.toNat_lt _
  have e1 : ((F1 : Int) % 2 == 1) = false := by rw [← hF1] at h1; simp; omega
  have m1 : ((F2 : Int) % 6 == 1) = true := by rw [← hF2] at h2; simp; omega
  have m2 : ((F2 : Int) % 6 == 2) = false := by rw [← hF2] at h2; simp; omega
  have m3 : ((F2 : Int) % 6 == 3) = false := by rw [← hF2] at h2; simp; omega
  have m4 : ((F2 : Int) % 6 == 4) = false := by rw [← hF2] at h2; simp; omega
  have g3 : ¬ ((3 : Int) ≤ (F2 : Int) % 6) := by rw [← hF2] at h2; omega

  have hfa := fun (w' : World) (h' : RNetAt B w' m r fs ls (k + 1)) => rfate_calls B m r fs ls (k + 1) w' h'
  have hfb := fun (w' : World) (h' : RNetAt B w' m r fs.tail ls (k + 1)) => rfate_calls B m r fs.tail ls (k + 1) w' h'
  rw [← hF1] at hfa
  rw [← hF2] at hfb
  have HFA := Lib.hid hfa
  have HFB := Lib.hid hfb
  clear hfa hfb hF1 hF2
  unfold RAskC
  obtain ⟨fv, A, c, hb, hf, hq, hr⟩ := id h
  have c2 : w.cell? ⟨m, 2, none⟩ = some (.int .i64 k) := by rw [hb.cell]; rfl
  have f2 := hb.frozen 2
  have hg1 := grown_set w m 2 (.int .i64 ((k : Int) + 1))
  have HG1 := Lib.hid hg1
  have HN1 := Lib.hid (RNetAt.turn (k' := k + 1) hg1 hb hf hq hr (hb.set 2 _))
  clear hb hf hq hr hg1
  go_enter Try.func15, Try.ntmps15
  go_wp2_with (first
    | (go_at_call 20; (with_reducible refine (HFA.out _ HN1.out).mono ?_); rintro e w2 ⟨rfl, hN2, ht2⟩; have HN2 := Lib.hid hN2; have HG2 := Lib.hid (HG1.out.trans ht2); clear hN2 ht2)
    | (go_at_call 20; (with_reducible refine (HFB.out _ HN2.out).mono ?_); rintro e w4 ⟨rfl, hN4, ht4⟩; have HN4 := Lib.hid hN4; have HG4 := Lib.hid (HG2.out.trans ht4); clear hN4 ht4))
  go_ret2
  exact ⟨r, rfl, HN4.out, HG4.out, .inl rfl⟩

set_option maxRecDepth 50000 in
set_option maxHeartbeats 4000000 in
theorem rask_plain (B m : Nat) (r : Option Nat) (fs : List UInt8) (ls : List ByteArray) (k : Nat) (w : World) (h : RNetAt B w m r fs ls k) (hk : k < 1000000) (hB : B ≤ w.heap.size) (h1 : (fs.headD 0).toNat % 2 ≠ 1) (s : ByteArray) (h2 : (fs.tail.headD 0).toNat % 6 = 0) :
    RAskC B m r k w s true fs.tail.tail ls (some s) := by
  obtain ⟨F1, hF1⟩ : ∃ F1, F1 = (fs.headD 0).toNat := ⟨_, rfl⟩
  obtain ⟨F2, hF2⟩ : ∃ F2, F2 = (fs.tail.headD 0).toNat := ⟨_, rfl⟩
  have hF1r : F1 < 256 := by rw [hF1]; exact UInt8.toNat_lt _
  have hF2r : F2 < 256 := by rw [hF2]; exact UInt8.toNat_lt _
  have e1 : ((F1 : Int) % 2 == 1) = false := by rw [← hF1] at h1; simp; omega
  have m1 : ((F2 : Int) % 6 == 1) = false := by rw [← hF2] at h2; simp; omega
  have m2 : ((F2 : Int) % 6 == 2) = false := by rw [← hF2] at h2; simp; omega
  have m3 : ((F2 : Int) % 6 == 3) = false := by rw [← hF2] at h2; simp; omega
  have m4 : ((F2 : Int) % 6 == 4) = false := by rw [← hF2] at h2; simp; omega
  have g3 : ¬ ((3 : Int) ≤ (F2 : Int) % 6) := by rw [← hF2] at h2; omega

  have hfa := fun (w' : World) (h' : RNetAt B w' m r fs ls (k + 1)) => rfate_calls B m r fs ls (k + 1) w' h'
  have hfb := fun (w' : World) (h' : RNetAt B w' m r fs.tail ls (k + 1)) => rfate_calls B m r fs.tail ls (k + 1) w' h'
  rw [← hF1] at hfa
  rw [← hF2] at hfb
  have HFA := Lib.hid hfa
  have HFB := Lib.hid hfb
  clear hfa hfb hF1 hF2
  unfold RAskC
  obtain ⟨fv, A, c, hb, hf, hq, hr⟩ := id h
  have c2 : w.cell? ⟨m, 2, none⟩ = some (.int .i64 k) := by rw [hb.cell]; rfl
  have f2 := hb.frozen 2
  have hg1 := grown_set w m 2 (.int .i64 ((k : Int) + 1))
  have HG1 := Lib.hid hg1
  have HN1 := Lib.hid (RNetAt.turn (k' := k + 1) hg1 hb hf hq hr (hb.set 2 _))
  clear hb hf hq hr hg1
  go_enter Try.func15, Try.ntmps15
  go_wp2_with (first
    | (go_at_call 20; (with_reducible refine (HFA.out _ HN1.out).mono ?_); rintro e w2 ⟨rfl, hN2, ht2⟩; have HN2 := Lib.hid hN2; have HG2 := Lib.hid (HG1.out.trans ht2); clear hN2 ht2)
    | (go_at_call 20; (with_reducible refine (HFB.out _ HN2.out).mono ?_); rintro e w4 ⟨rfl, hN4, ht4⟩; have HN4 := Lib.hid hN4; have HG4 := Lib.hid (HG2.out.trans ht4); clear hN4 ht4))
  go_ret2
  exact ⟨r, rfl, HN4.out, HG4.out, .inl rfl⟩

set_option maxRecDepth 50000 in
set_option maxHeartbeats 4000000 in
theorem rask_turn0 (B m : Nat) (r : Option Nat) (fs : List UInt8) (ls : List ByteArray) (k : Nat) (w : World) (h : RNetAt B w m r fs ls k) (hk : k < 1000000) (hB : B ≤ w.heap.size) (h1 : (fs.headD 0).toNat % 2 ≠ 1) (h2 : (fs.tail.headD 0).toNat % 6 = 2) :
    RAskC B m r k w ByteArray.empty true fs.tail.tail ls none := by
  obtain ⟨F1, hF1⟩ : ∃ F1, F1 = (fs.headD 0).toNat := ⟨_, rfl⟩
  obtain ⟨F2, hF2⟩ : ∃ F2, F2 = (fs.tail.headD 0).toNat := ⟨_, rfl⟩
  have hF1r : F1 < 256 := by rw [hF1]; exact UInt8.toNat_lt _
  have hF2r : F2 < 256 := by rw [hF2]; exact UInt8.toNat_lt _
  have e1 : ((F1 : Int) % 2 == 1) = false := by rw [← hF1] at h1; simp; omega
  have m1 : ((F2 : Int) % 6 == 1) = false := by rw [← hF2] at h2; simp; omega
  have m2 : ((F2 : Int) % 6 == 2) = true := by rw [← hF2] at h2; simp; omega
  have m3 : ((F2 : Int) % 6 == 3) = false := by rw [← hF2] at h2; simp; omega
  have m4 : ((F2 : Int) % 6 == 4) = false := by rw [← hF2] at h2; simp; omega
  have g3 : ¬ ((3 : Int) ≤ (F2 : Int) % 6) := by rw [← hF2] at h2; omega

  have hfa := fun (w' : World) (h' : RNetAt B w' m r fs ls (k + 1)) => rfate_calls B m r fs ls (k + 1) w' h'
  have hfb := fun (w' : World) (h' : RNetAt B w' m r fs.tail ls (k + 1)) => rfate_calls B m r fs.tail ls (k + 1) w' h'
  rw [← hF1] at hfa
  rw [← hF2] at hfb
  have HFA := Lib.hid hfa
  have HFB := Lib.hid hfb
  clear hfa hfb hF1 hF2
  unfold RAskC
  obtain ⟨fv, A, c, hb, hf, hq, hr⟩ := id h
  have c2 : w.cell? ⟨m, 2, none⟩ = some (.int .i64 k) := by rw [hb.cell]; rfl
  have f2 := hb.frozen 2
  have hg1 := grown_set w m 2 (.int .i64 ((k : Int) + 1))
  have HG1 := Lib.hid hg1
  have HN1 := Lib.hid (RNetAt.turn (k' := k + 1) hg1 hb hf hq hr (hb.set 2 _))
  clear hb hf hq hr hg1
  go_enter Try.func15, Try.ntmps15
  go_wp2_with (first
    | (go_at_call 20; (with_reducible refine (HFA.out _ HN1.out).mono ?_); rintro e w2 ⟨rfl, hN2, ht2⟩; have HN2 := Lib.hid hN2; have HG2 := Lib.hid (HG1.out.trans ht2); clear hN2 ht2)
    | (go_at_call 20; (with_reducible refine (HFB.out _ HN2.out).mono ?_); rintro e w4 ⟨rfl, hN4, ht4⟩; have HN4 := Lib.hid hN4; have HG4 := Lib.hid (HG2.out.trans ht4); clear hN4 ht4))
  go_ret2
  exact ⟨r, rfl, HN4.out, HG4.out, .inl rfl⟩

set_option maxRecDepth 50000 in
set_option maxHeartbeats 4000000 in
theorem rask_late (B m : Nat) (r : Option Nat) (fs : List UInt8) (ls : List ByteArray) (k : Nat) (w : World) (h : RNetAt B w m r fs ls k) (hk : k < 1000000) (hB : B ≤ w.heap.size) (h1 : (fs.headD 0).toNat % 2 ≠ 1) (s : ByteArray) (h2 : (fs.tail.headD 0).toNat % 6 = 3) (hls : ls.length ≤ 100000) :
    RAskC B m r k w s true fs.tail.tail (ls ++ [s]) none := by
  obtain ⟨F1, hF1⟩ : ∃ F1, F1 = (fs.headD 0).toNat := ⟨_, rfl⟩
  obtain ⟨F2, hF2⟩ : ∃ F2, F2 = (fs.tail.headD 0).toNat := ⟨_, rfl⟩
  have hF1r : F1 < 256 := by rw [hF1]; exact UInt8.toNat_lt _
  have hF2r : F2 < 256 := by rw [hF2]; exact UInt8.toNat_lt _
  have e1 : ((F1 : Int) % 2 == 1) = false := by rw [← hF1] at h1; simp; omega
  have m1 : ((F2 : Int) % 6 == 1) = false := by rw [← hF2] at h2; simp; omega
  have m2 : ((F2 : Int) % 6 == 2) = false := by rw [← hF2] at h2; simp; omega
  have m3 : ((F2 : Int) % 6 == 3) = true := by rw [← hF2] at h2; simp; omega
  have m4 : ((F2 : Int) % 6 == 4) = false := by rw [← hF2] at h2; simp; omega
  have g3 :  ((3 : Int) ≤ (F2 : Int) % 6) := by rw [← hF2] at h2; omega

  have hfa := fun (w' : World) (h' : RNetAt B w' m r fs ls (k + 1)) => rfate_calls B m r fs ls (k + 1) w' h'
  have hfb := fun (w' : World) (h' : RNetAt B w' m r fs.tail ls (k + 1)) => rfate_calls B m r fs.tail ls (k + 1) w' h'
  rw [← hF1] at hfa
  rw [← hF2] at hfb
  have HFA := Lib.hid hfa
  have HFB := Lib.hid hfb
  clear hfa hfb hF1 hF2
  unfold RAskC
  obtain ⟨fv, A, c, hb, hf, hq, hr⟩ := id h
  have c2 : w.cell? ⟨m, 2, none⟩ = some (.int .i64 k) := by rw [hb.cell]; rfl
  have f2 := hb.frozen 2
  have hg1 := grown_set w m 2 (.int .i64 ((k : Int) + 1))
  have HG1 := Lib.hid hg1
  have HN1 := Lib.hid (RNetAt.turn (k' := k + 1) hg1 hb hf hq hr (hb.set 2 _))
  clear hb hf hq hr hg1
  go_enter Try.func15, Try.ntmps15
  go_wp2_with (first
    | (go_at_call 20; (with_reducible refine (HFA.out _ HN1.out).mono ?_); rintro e w2 ⟨rfl, hN2, ht2⟩; have HN2 := Lib.hid hN2; have HG2 := Lib.hid (HG1.out.trans ht2); clear hN2 ht2)
    | (go_at_call 20; (with_reducible refine (HFB.out _ HN2.out).mono ?_); rintro e w4 ⟨rfl, hN4, ht4⟩; have HN4 := Lib.hid hN4; have HG4 := Lib.hid (HG2.out.trans ht4); clear hN4 ht4; obtain ⟨fv4, A4, c4, hb4, hf4, hq4, hr4⟩ := id HN4.out; obtain ⟨_, _, he4, _, _, hc4⟩ := hq4.form; cases he4; have c41 : w4.cell? ⟨m, 1, none⟩ = some (.slice A4 ls.length c4) := (by rw [hb4.cell]; rfl); have c42 : (w4.alloc (.cells #[] 9)).cell? ⟨m, 1, none⟩ = some (.slice A4 ls.length c4) := (by rw [(hb4.ext ((Ext.refl w4).alloc _)).cell]; rfl); have HB4 := Lib.hid hb4; have HF4 := Lib.hid hf4; have HC4 := Lib.hid hc4; have hB4 := Nat.le_trans hB HG4.out.size; clear hb4 hf4 hq4 hr4 hc4)
    | (at_builtin; refine wpList_append_t _ rfl (.tmp 76) (.tmp 80) rfl B (.slice (some ⟨w4.heap.size, 0, none⟩) 0 0) [] rfl (own_lit #[] hB4 (by simp only [maxLen]; omega) rfl) A4 ls.length c4 ls rfl rfl (HC4.out.ext ((Ext.refl _).alloc _)) (by show 0 + _ ≤ _; omega) (Nat.le_trans hB4 ((Ext.refl w4).alloc (.cells #[] 9)).size) ?_; intro v5 w5 hq5 hg5 hat5; rw [List.nil_append] at hq5; have hx5 : Ext w4 w5 := ((Ext.refl w4).alloc (.cells #[] 9)).grown_ hg5 (fun j e => by cases e; exact Nat.le_refl _); have hv5 : ∃ j, v5.ownBlock = some j ∧ w4.heap.size ≤ j := hat5.elim (fun e => ⟨_, e.trans rfl, Nat.le_refl _⟩) (fun e => ⟨_, e, ((Ext.refl w4).alloc (.cells #[] 9)).size⟩); obtain ⟨A5, c5, rfl, _, _, _⟩ := hq5.form; have HQ5 := Lib.hid hq5; clear hg5 hq5 hat5)
    | (at_builtin; refine wpList_append_t _ rfl (.tmp 81) (.tmp 83) rfl B (.slice A5 ls.length c5) ls rfl (own_ext HQ5.out ((Ext.refl _).alloc _)) (some ⟨w5.heap.size, 0, none⟩) 1 1 [s] rfl rfl (Blk.new w5 9 #[.string s]).cells (by omega) (Nat.le_trans hB4 (Nat.le_trans hx5.size ((Ext.refl w5).alloc (.cells #[.string s] 9)).size)) ?_; intro v6 w6 hq6 hg6 hat6; obtain ⟨j5, hj5, hl5⟩ := hv5; have hx6 : Ext w4 w6 := (hx5.alloc (.cells #[.string s] 9)).grown_ hg6 (fun j e => by rw [hj5] at e; cases e; exact hl5); have hv6 : ∃ j, v6.ownBlock = some j ∧ w4.heap.size ≤ j := hat6.elim (fun e => ⟨j5, e.trans hj5, hl5⟩) (fun e => ⟨_, e, (hx5.alloc (.cells #[.string s] 9)).size⟩); obtain ⟨A6, c6, rfl, _, _, hc6⟩ := hq6.form; rw [show (ls ++ [s]).length = ls.length + 1 from List.length_append] at hq6 hv6 ⊢; have HQ6 := Lib.hid hq6; have HC6 := Lib.hid hc6; have HB6 := Lib.hid (HB4.out.ext hx6); have HF6 := Lib.hid (HF4.out.ext hx6); have f6 := HB6.out.frozen 1; have c61 : w6.cell? ⟨m, 1, none⟩ = some (.slice A4 ls.length c4) := (by rw [HB6.out.cell]; rfl); have HG6 := Lib.hid (HG4.out.trans (hx6.gb (some m))); clear hg6 hq6 hc6 hat6))
  go_ret2
  obtain ⟨j6, hj6, hl6⟩ := hv6
  have hg7 := grown_set w6 m 1 (.slice A6 (ls.length + 1) c6)
  exact ⟨some j6, rfl, RNetAt.turn hg7 HB6.out HF6.out (ls' := ls ++ [s]) (by rw [show (ls ++ [s]).length = ls.length + 1 from List.length_append]; exact HQ6.out) (by rw [show (ls ++ [s]).length = ls.length + 1 from List.length_append]; exact hj6) (by rw [show (ls ++ [s]).length = ls.length + 1 from List.length_append]; exact HB6.out.set 1 _), HG6.out.trans hg7, .inr ⟨j6, rfl, Nat.le_trans HG4.out.size hl6⟩⟩

set_option maxRecDepth 50000 in
set_option maxHeartbeats 4000000 in
theorem rask_twice (B m : Nat) (r : Option Nat) (fs : List UInt8) (ls : List ByteArray) (k : Nat) (w : World) (h : RNetAt B w m r fs ls k) (hk : k < 1000000) (hB : B ≤ w.heap.size) (h1 : (fs.headD 0).toNat % 2 ≠ 1) (s : ByteArray) (h2 : (fs.tail.headD 0).toNat % 6 = 5) (hls : ls.length ≤ 100000) :
    RAskC B m r k w s true fs.tail.tail (ls ++ [s]) (some s) := by
  obtain ⟨F1, hF1⟩ : ∃ F1, F1 = (fs.headD 0).toNat := ⟨_, rfl⟩
  obtain ⟨F2, hF2⟩ : ∃ F2, F2 = (fs.tail.headD 0).toNat := ⟨_, rfl⟩
  have hF1r : F1 < 256 := by rw [hF1]; exact UInt8.toNat_lt _
  have hF2r : F2 < 256 := by rw [hF2]; exact UInt8.toNat_lt _
  have e1 : ((F1 : Int) % 2 == 1) = false := by rw [← hF1] at h1; simp; omega
  have m1 : ((F2 : Int) % 6 == 1) = false := by rw [← hF2] at h2; simp; omega
  have m2 : ((F2 : Int) % 6 == 2) = false := by rw [← hF2] at h2; simp; omega
  have m3 : ((F2 : Int) % 6 == 3) = false := by rw [← hF2] at h2; simp; omega
  have m4 : ((F2 : Int) % 6 == 4) = false := by rw [← hF2] at h2; simp; omega
  have g3 :  ((3 : Int) ≤ (F2 : Int) % 6) := by rw [← hF2] at h2; omega

  have hfa := fun (w' : World) (h' : RNetAt B w' m r fs ls (k + 1)) => rfate_calls B m r fs ls (k + 1) w' h'
  have hfb := fun (w' : World) (h' : RNetAt B w' m r fs.tail ls (k + 1)) => rfate_calls B m r fs.tail ls (k + 1) w' h'
  rw [← hF1] at hfa
  rw [← hF2] at hfb
  have HFA := Lib.hid hfa
  have HFB := Lib.hid hfb
  clear hfa hfb hF1 hF2
  unfold RAskC
  obtain ⟨fv, A, c, hb, hf, hq, hr⟩ := id h
  have c2 : w.cell? ⟨m, 2, none⟩ = some (.int .i64 k) := by rw [hb.cell]; rfl
  have f2 := hb.frozen 2
  have hg1 := grown_set w m 2 (.int .i64 ((k : Int) + 1))
  have HG1 := Lib.hid hg1
  have HN1 := Lib.hid (RNetAt.turn (k' := k + 1) hg1 hb hf hq hr (hb.set 2 _))
  clear hb hf hq hr hg1
  go_enter Try.func15, Try.ntmps15
  go_wp2_with (first
    | (go_at_call 20; (with_reducible refine (HFA.out _ HN1.out).mono ?_); rintro e w2 ⟨rfl, hN2, ht2⟩; have HN2 := Lib.hid hN2; have HG2 := Lib.hid (HG1.out.trans ht2); clear hN2 ht2)
    | (go_at_call 20; (with_reducible refine (HFB.out _ HN2.out).mono ?_); rintro e w4 ⟨rfl, hN4, ht4⟩; have HN4 := Lib.hid hN4; have HG4 := Lib.hid (HG2.out.trans ht4); clear hN4 ht4; obtain ⟨fv4, A4, c4, hb4, hf4, hq4, hr4⟩ := id HN4.out; obtain ⟨_, _, he4, _, _, hc4⟩ := hq4.form; cases he4; have c41 : w4.cell? ⟨m, 1, none⟩ = some (.slice A4 ls.length c4) := (by rw [hb4.cell]; rfl); have c42 : (w4.alloc (.cells #[] 9)).cell? ⟨m, 1, none⟩ = some (.slice A4 ls.length c4) := (by rw [(hb4.ext ((Ext.refl w4).alloc _)).cell]; rfl); have HB4 := Lib.hid hb4; have HF4 := Lib.hid hf4; have HC4 := Lib.hid hc4; have hB4 := Nat.le_trans hB HG4.out.size; clear hb4 hf4 hq4 hr4 hc4)
    | (at_builtin; refine wpList_append_t _ rfl (.tmp 76) (.tmp 80) rfl B (.slice (some ⟨w4.heap.size, 0, none⟩) 0 0) [] rfl (own_lit #[] hB4 (by simp only [maxLen]; omega) rfl) A4 ls.length c4 ls rfl rfl (HC4.out.ext ((Ext.refl _).alloc _)) (by show 0 + _ ≤ _; omega) (Nat.le_trans hB4 ((Ext.refl w4).alloc (.cells #[] 9)).size) ?_; intro v5 w5 hq5 hg5 hat5; rw [List.nil_append] at hq5; have hx5 : Ext w4 w5 := ((Ext.refl w4).alloc (.cells #[] 9)).grown_ hg5 (fun j e => by cases e; exact Nat.le_refl _); have hv5 : ∃ j, v5.ownBlock = some j ∧ w4.heap.size ≤ j := hat5.elim (fun e => ⟨_, e.trans rfl, Nat.le_refl _⟩) (fun e => ⟨_, e, ((Ext.refl w4).alloc (.cells #[] 9)).size⟩); obtain ⟨A5, c5, rfl, _, _, _⟩ := hq5.form; have HQ5 := Lib.hid hq5; clear hg5 hq5 hat5)
    | (at_builtin; refine wpList_append_t _ rfl (.tmp 81) (.tmp 83) rfl B (.slice A5 ls.length c5) ls rfl (own_ext HQ5.out ((Ext.refl _).alloc _)) (some ⟨w5.heap.size, 0, none⟩) 1 1 [s] rfl rfl (Blk.new w5 9 #[.string s]).cells (by omega) (Nat.le_trans hB4 (Nat.le_trans hx5.size ((Ext.refl w5).alloc (.cells #[.string s] 9)).size)) ?_; intro v6 w6 hq6 hg6 hat6; obtain ⟨j5, hj5, hl5⟩ := hv5; have hx6 : Ext w4 w6 := (hx5.alloc (.cells #[.string s] 9)).grown_ hg6 (fun j e => by rw [hj5] at e; cases e; exact hl5); have hv6 : ∃ j, v6.ownBlock = some j ∧ w4.heap.size ≤ j := hat6.elim (fun e => ⟨j5, e.trans hj5, hl5⟩) (fun e => ⟨_, e, (hx5.alloc (.cells #[.string s] 9)).size⟩); obtain ⟨A6, c6, rfl, _, _, hc6⟩ := hq6.form; rw [show (ls ++ [s]).length = ls.length + 1 from List.length_append] at hq6 hv6 ⊢; have HQ6 := Lib.hid hq6; have HC6 := Lib.hid hc6; have HB6 := Lib.hid (HB4.out.ext hx6); have HF6 := Lib.hid (HF4.out.ext hx6); have f6 := HB6.out.frozen 1; have c61 : w6.cell? ⟨m, 1, none⟩ = some (.slice A4 ls.length c4) := (by rw [HB6.out.cell]; rfl); have HG6 := Lib.hid (HG4.out.trans (hx6.gb (some m))); clear hg6 hq6 hc6 hat6))
  go_ret2
  obtain ⟨j6, hj6, hl6⟩ := hv6
  have hg7 := grown_set w6 m 1 (.slice A6 (ls.length + 1) c6)
  exact ⟨some j6, rfl, RNetAt.turn hg7 HB6.out HF6.out (ls' := ls ++ [s]) (by rw [show (ls ++ [s]).length = ls.length + 1 from List.length_append]; exact HQ6.out) (by rw [show (ls ++ [s]).length = ls.length + 1 from List.length_append]; exact hj6) (by rw [show (ls ++ [s]).length = ls.length + 1 from List.length_append]; exact HB6.out.set 1 _), HG6.out.trans hg7, .inr ⟨j6, rfl, Nat.le_trans HG4.out.size hl6⟩⟩

set_option maxRecDepth 50000 in
set_option maxHeartbeats 4000000 in
theorem rask_elder (B m : Nat) (r : Option Nat) (fs : List UInt8) (ls : List ByteArray) (k : Nat) (w : World) (h : RNetAt B w m r fs ls k) (hk : k < 1000000) (hB : B ≤ w.heap.size) (h1 : (fs.headD 0).toNat % 2 ≠ 1) (s : ByteArray) (h2 : (fs.tail.headD 0).toNat % 6 = 4) (hls : ls.length ≤ 100000) :
    RAskC B m r k w s true fs.tail.tail (ls ++ [s]).tail (ls ++ [s]).head? := by
  obtain ⟨F1, hF1⟩ : ∃ F1, F1 = (fs.headD 0).toNat := ⟨_, rfl⟩
  obtain ⟨F2, hF2⟩ : ∃ F2, F2 = (fs.tail.headD 0).toNat := ⟨_, rfl⟩
  have hF1r : F1 < 256 := by rw [hF1]; exact UInt8.toNat_lt _
  have hF2r : F2 < 256 := by rw [hF2]; exact UInt8.toNat_lt _
  have e1 : ((F1 : Int) % 2 == 1) = false := by rw [← hF1] at h1; simp; omega
  have m1 : ((F2 : Int) % 6 == 1) = false := by rw [← hF2] at h2; simp; omega
  have m2 : ((F2 : Int) % 6 == 2) = false := by rw [← hF2] at h2; simp; omega
  have m3 : ((F2 : Int) % 6 == 3) = false := by rw [← hF2] at h2; simp; omega
  have m4 : ((F2 : Int) % 6 == 4) = true := by rw [← hF2] at h2; simp; omega
  have g3 :  ((3 : Int) ≤ (F2 : Int) % 6) := by rw [← hF2] at h2; omega

  have hfa := fun (w' : World) (h' : RNetAt B w' m r fs ls (k + 1)) => rfate_calls B m r fs ls (k + 1) w' h'
  have hfb := fun (w' : World) (h' : RNetAt B w' m r fs.tail ls (k + 1)) => rfate_calls B m r fs.tail ls (k + 1) w' h'
  rw [← hF1] at hfa
  rw [← hF2] at hfb
  have HFA := Lib.hid hfa
  have HFB := Lib.hid hfb
  clear hfa hfb hF1 hF2
  unfold RAskC
  obtain ⟨fv, A, c, hb, hf, hq, hr⟩ := id h
  have c2 : w.cell? ⟨m, 2, none⟩ = some (.int .i64 k) := by rw [hb.cell]; rfl
  have f2 := hb.frozen 2
  have hg1 := grown_set w m 2 (.int .i64 ((k : Int) + 1))
  have HG1 := Lib.hid hg1
  have HN1 := Lib.hid (RNetAt.turn (k' := k + 1) hg1 hb hf hq hr (hb.set 2 _))
  clear hb hf hq hr hg1
  go_enter Try.func15, Try.ntmps15
  go_upto_region 22 with (first
    | (go_at_call 20; (with_reducible refine (HFA.out _ HN1.out).mono ?_); rintro e w2 ⟨rfl, hN2, ht2⟩; have HN2 := Lib.hid hN2; have HG2 := Lib.hid (HG1.out.trans ht2); clear hN2 ht2)
    | (go_at_call 20; (with_reducible refine (HFB.out _ HN2.out).mono ?_); rintro e w4 ⟨rfl, hN4, ht4⟩; have HN4 := Lib.hid hN4; have HG4 := Lib.hid (HG2.out.trans ht4); clear hN4 ht4; obtain ⟨fv4, A4, c4, hb4, hf4, hq4, hr4⟩ := id HN4.out; obtain ⟨_, _, he4, _, _, hc4⟩ := hq4.form; cases he4; have c41 : w4.cell? ⟨m, 1, none⟩ = some (.slice A4 ls.length c4) := (by rw [hb4.cell]; rfl); have c42 : (w4.alloc (.cells #[] 9)).cell? ⟨m, 1, none⟩ = some (.slice A4 ls.length c4) := (by rw [(hb4.ext ((Ext.refl w4).alloc _)).cell]; rfl); have HB4 := Lib.hid hb4; have HF4 := Lib.hid hf4; have HC4 := Lib.hid hc4; have hB4 := Nat.le_trans hB HG4.out.size; clear hb4 hf4 hq4 hr4 hc4)
    | (at_builtin; refine wpList_append_t _ rfl (.tmp 76) (.tmp 80) rfl B (.slice (some ⟨w4.heap.size, 0, none⟩) 0 0) [] rfl (own_lit #[] hB4 (by simp only [maxLen]; omega) rfl) A4 ls.length c4 ls rfl rfl (HC4.out.ext ((Ext.refl _).alloc _)) (by show 0 + _ ≤ _; omega) (Nat.le_trans hB4 ((Ext.refl w4).alloc (.cells #[] 9)).size) ?_; intro v5 w5 hq5 hg5 hat5; rw [List.nil_append] at hq5; have hx5 : Ext w4 w5 := ((Ext.refl w4).alloc (.cells #[] 9)).grown_ hg5 (fun j e => by cases e; exact Nat.le_refl _); have hv5 : ∃ j, v5.ownBlock = some j ∧ w4.heap.size ≤ j := hat5.elim (fun e => ⟨_, e.trans rfl, Nat.le_refl _⟩) (fun e => ⟨_, e, ((Ext.refl w4).alloc (.cells #[] 9)).size⟩); obtain ⟨A5, c5, rfl, _, _, _⟩ := hq5.form; have HQ5 := Lib.hid hq5; clear hg5 hq5 hat5)
    | (at_builtin; refine wpList_append_t _ rfl (.tmp 81) (.tmp 83) rfl B (.slice A5 ls.length c5) ls rfl (own_ext HQ5.out ((Ext.refl _).alloc _)) (some ⟨w5.heap.size, 0, none⟩) 1 1 [s] rfl rfl (Blk.new w5 9 #[.string s]).cells (by omega) (Nat.le_trans hB4 (Nat.le_trans hx5.size ((Ext.refl w5).alloc (.cells #[.string s] 9)).size)) ?_; intro v6 w6 hq6 hg6 hat6; obtain ⟨j5, hj5, hl5⟩ := hv5; have hx6 : Ext w4 w6 := (hx5.alloc (.cells #[.string s] 9)).grown_ hg6 (fun j e => by rw [hj5] at e; cases e; exact hl5); have hv6 : ∃ j, v6.ownBlock = some j ∧ w4.heap.size ≤ j := hat6.elim (fun e => ⟨j5, e.trans hj5, hl5⟩) (fun e => ⟨_, e, (hx5.alloc (.cells #[.string s] 9)).size⟩); obtain ⟨A6, c6, rfl, _, _, hc6⟩ := hq6.form; rw [show (ls ++ [s]).length = ls.length + 1 from List.length_append] at hq6 hv6 ⊢; have HQ6 := Lib.hid hq6; have HC6 := Lib.hid hc6; have HB6 := Lib.hid (HB4.out.ext hx6); have HF6 := Lib.hid (HF4.out.ext hx6); have f6 := HB6.out.frozen 1; have c61 : w6.cell? ⟨m, 1, none⟩ = some (.slice A4 ls.length c4) := (by rw [HB6.out.cell]; rfl); have HG6 := Lib.hid (HG4.out.trans (hx6.gb (some m))); clear hg6 hq6 hc6 hat6))
  obtain ⟨w7, hw7⟩ : ∃ w7, w7 = w6.setCell ⟨m, 1, none⟩ (.slice A6 (ls.length + 1) c6) := ⟨_, rfl⟩
  rw [← hw7]
  have hg7 : w6.grownBy w7 (some m) := by rw [hw7]; exact grown_set w6 m 1 _
  have HB7 := Lib.hid (show Blk w7 m 35 #[fv4, .slice A6 (ls.length + 1) c6, .int .i64 ((k + 1 : Nat) : Int)] from by rw [hw7]; exact HB6.out.set 1 _)
  have HF7 := Lib.hid (HF6.out.grown hg7 (fun j cur hj e => HB6.out.ne hj (Ne.symm rne.1) (Option.some.inj e).symm))
  have hq7 : OwnT B w7 (.slice A6 (ls ++ [s]).length c6) (ls ++ [s]) := by
    rw [show (ls ++ [s]).length = ls.length + 1 from List.length_append]
    exact HQ6.out.grown hg7 (HQ6.out.ne HB6.out rne.2.1)
  obtain ⟨_, _, he7, hl6, _, hc7⟩ := hq7.form
  cases he7
  have HG7 := Lib.hid (HG6.out.trans hg7)
  have hB7 := Nat.le_trans hB HG7.out.size
  clear hw7 HB6 HF6 HQ6 hq7 HC6
  obtain ⟨M, ys, y, hM, hys⟩ : ∃ (M : Nat) (ys : List ByteArray) (y : ByteArray), ys.length = M ∧ ls ++ [s] = y :: ys := by
    cases hl : ls ++ [s] with
    | nil => simp at hl
    | cons y ys => exact ⟨_, ys, y, rfl, rfl⟩
  have hlM : ls.length = M := by have := congrArg List.length hys; simp at this; omega
  rw [hys] at hc7 hl6
  rw [List.length_cons, hM] at hl6
  rw [hlM] at HB7 hls ⊢
  obtain ⟨a6, e6, hfirst⟩ := hc7 0 _ rfl
  subst e6
  rw [add_zero] at hfirst
  have HC7 := Lib.hid hc7
  have c71 : w7.cell? ⟨m, 1, none⟩ = some (.slice (some a6) (M + 1) c6) := by rw [HB7.out.cell]; rfl
  have c72 : (w7.alloc (.cells #[] 9)).cell? ⟨m, 1, none⟩ = some (.slice (some a6) (M + 1) c6) := by rw [(HB7.out.ext ((Ext.refl w7).alloc _)).cell]; rfl
  have HO : (ls ++ [s]).tail = ys ∧ (ls ++ [s]).head? = some y := by rw [hys]; exact ⟨rfl, rfl⟩
  clear hc7 hys c61 f6 hv6
  go_wp2_with (first
    | (refine wpList_slice_from rfl 33 9 (.tmp 104) (.const (.int .i64 1)) rfl Try.underlying33 1 qstr_size (some a6) (M + 1) c6 1 .i64 rfl rfl (by omega) hl6 (HC7.out.ext ((Ext.refl _).alloc (.cells #[] 9))) (by rw [List.length_map, List.length_cons, hM, Nat.mul_one]) ?_; intro A8 hA8 hS8; rw [Nat.mul_one, List.map_cons, List.drop_succ_cons, List.drop_zero] at hA8; have HA8 := Lib.hid hA8; clear hA8)
    | (at_builtin; refine wpList_append_t _ rfl (.tmp 100) (.tmp 105) rfl B (.slice (some ⟨w7.heap.size, 0, none⟩) 0 0) [] rfl (own_lit #[] hB7 (by simp only [maxLen]; omega) rfl) A8 M (c6 - 1) ys rfl hM HA8.out (by show 0 + _ ≤ _; omega) (Nat.le_trans hB7 ((Ext.refl w7).alloc (.cells #[] 9)).size) ?_; intro v9 w9 hq9 hg9 hat9; rw [List.nil_append] at hq9; have hx9 : Ext w7 w9 := ((Ext.refl w7).alloc (.cells #[] 9)).grown_ hg9 (fun j e => by cases e; exact Nat.le_refl _); have hv9 : ∃ j, v9.ownBlock = some j ∧ w7.heap.size ≤ j := hat9.elim (fun e => ⟨_, e.trans rfl, Nat.le_refl _⟩) (fun e => ⟨_, e, ((Ext.refl w7).alloc (.cells #[] 9)).size⟩); obtain ⟨A9, c9, rfl, _, _, _⟩ := hq9.form; rw [hM] at hv9 ⊢; have HQ9 := Lib.hid hq9; have HB9 := Lib.hid (HB7.out.ext hx9); have f9 := HB9.out.frozen 1; have c91 : w9.cell? ⟨m, 1, none⟩ = some (.slice (some a6) (M + 1) c6) := (by rw [HB9.out.cell]; rfl); clear hg9 hq9 hat9))
  go_ret2
  rw [HO.1, HO.2]
  obtain ⟨j9, hj9, hl9⟩ := hv9
  have hg10 := grown_set w9 m 1 (.slice A9 M c9)
  have HF9 := HF7.out.ext hx9
  subst hM
  exact ⟨some j9, rfl, RNetAt.turn hg10 HB9.out HF9 HQ9.out hj9 (HB9.out.set 1 _), (HG7.out.trans (hx9.gb (some m))).trans hg10, .inr ⟨j9, rfl, Nat.le_trans HG7.out.size hl9⟩⟩

set_option maxRecDepth 50000 in
set_option maxHeartbeats 4000000 in
theorem rask_turn (B m : Nat) (r : Option Nat) (fs : List UInt8) (ls : List ByteArray) (k : Nat) (w : World) (h : RNetAt B w m r fs ls k) (hk : k < 1000000) (hB : B ≤ w.heap.size) (h1 : (fs.headD 0).toNat % 2 ≠ 1) (s : ByteArray) (h2 : (fs.tail.headD 0).toNat % 6 = 2) (hs : s.size ≠ 0) (hsz : s.size ≤ 140737488351232) :
    RAskC B m r k w s true fs.tail.tail ls (some (turnB s (fs.tail.headD 0))) := by
  obtain ⟨F1, hF1⟩ : ∃ F1, F1 = (fs.headD 0).toNat := ⟨_, rfl⟩
  obtain ⟨F2, hF2⟩ : ∃ F2, F2 = (fs.tail.headD 0).toNat := ⟨_, rfl⟩
  have hF1r : F1 < 256 := by rw [hF1]; exact UInt8.toNat_lt _
  have hF2r : F2 < 256 := by rw [hF2]; exact UInt8.toNat_lt _
  have e1 : ((F1 : Int) % 2 == 1) = false := by rw [← hF1] at h1; simp; omega
  have m1 : ((F2 : Int) % 6 == 1) = false := by rw [← hF2] at h2; simp; omega
  have m2 : ((F2 : Int) % 6 == 2) = true := by rw [← hF2] at h2; simp; omega
  have m3 : ((F2 : Int) % 6 == 3) = false := by rw [← hF2] at h2; simp; omega
  have m4 : ((F2 : Int) % 6 == 4) = false := by rw [← hF2] at h2; simp; omega
  have g3 : ¬ ((3 : Int) ≤ (F2 : Int) % 6) := by rw [← hF2] at h2; omega
  have hse : s.toList.isEmpty = false := by
    rw [ByteArray.toList_eq]
    cases hl : s.data.toList with
    | nil => exact absurd (by rw [← str_len, hl]; rfl) hs
    | cons a l => rfl
  have HOUT := Lib.hid (show turnB s (fs.tail.headD 0) = bstr (s.data.toList.set (F2 / 6 % s.size) (s.data.toList.getD (F2 / 6 % s.size) 0 ^^^ UInt8.ofNat (2 ^ (F2 % 8)))) from by rw [hF2]; rfl)

  have hfa := fun (w' : World) (h' : RNetAt B w' m r fs ls (k + 1)) => rfate_calls B m r fs ls (k + 1) w' h'
  have hfb := fun (w' : World) (h' : RNetAt B w' m r fs.tail ls (k + 1)) => rfate_calls B m r fs.tail ls (k + 1) w' h'
  rw [← hF1] at hfa
  rw [← hF2] at hfb
  have HFA := Lib.hid hfa
  have HFB := Lib.hid hfb
  clear hfa hfb hF1 hF2
  unfold RAskC
  obtain ⟨fv, A, c, hb, hf, hq, hr⟩ := id h
  have c2 : w.cell? ⟨m, 2, none⟩ = some (.int .i64 k) := by rw [hb.cell]; rfl
  have f2 := hb.frozen 2
  have hg1 := grown_set w m 2 (.int .i64 ((k : Int) + 1))
  have HG1 := Lib.hid hg1
  have HN1 := Lib.hid (RNetAt.turn (k' := k + 1) hg1 hb hf hq hr (hb.set 2 _))
  clear hb hf hq hr hg1
  go_enter Try.func15, Try.ntmps15
  go_upto_region 10 with (first
    | (go_at_call 20; (with_reducible refine (HFA.out _ HN1.out).mono ?_); rintro e w2 ⟨rfl, hN2, ht2⟩; have HN2 := Lib.hid hN2; have HG2 := Lib.hid (HG1.out.trans ht2); clear hN2 ht2)
    | (go_at_call 20; (with_reducible refine (HFB.out _ HN2.out).mono ?_); rintro e w4 ⟨rfl, hN4, ht4⟩; have HN4 := Lib.hid hN4; have HG4 := Lib.hid (HG2.out.trans ht4); clear hN4 ht4))
  obtain ⟨T, hT⟩ : ∃ T, T = s.data.toList.set (F2 / 6 % s.size) (s.data.toList.getD (F2 / 6 % s.size) 0 ^^^ UInt8.ofNat (2 ^ (F2 % 8))) := ⟨_, rfl⟩
  have hTl : T.length = s.size := by rw [hT, List.length_set, str_len]
  have hTg : ∀ (j : Nat) (h : j < s.size), T[j]? = some (if F2 / 6 % s.size = j then (s.data[j]'h) ^^^ UInt8.ofNat (2 ^ (F2 % 8)) else s.data[j]'h) := fun j h => by
    rw [hT, List.getElem?_set]
    by_cases e : F2 / 6 % s.size = j
    · rw [if_pos e, if_pos e, if_pos (by rw [str_len]; omega)]
      subst e
      rw [getD_data s _ h]
    · rw [if_neg e, if_neg e, List.getElem?_eq_getElem (by rw [str_len]; exact h)]
      rfl
  rw [← hT] at HOUT
  have HTL := Lib.hid hTl
  have HTG := Lib.hid hTg
  clear hT hTl hTg
  go_loopw [9, 10] (fun u v wr => ∃ (j : Nat), j ≤ s.size ∧ v = .int .i64 j ∧ u = .string (bstr (T.take j)) ∧ Ext w4 wr) (fun _ v _ => s.size - (intOf v).toNat)
  case atStart => exact ⟨0, Nat.zero_le _, rfl, rfl, Ext.refl _⟩
  case round =>
    obtain ⟨j, hj, rfl, rfl, hx⟩ := hrel
    by_cases hlt : j < s.size
    · have hp0 : (0 : Int) ≤ (j : Int) := by omega
      have hp1 : (j : Int) < (s.size : Int) := by omega
      have hget := HTG.out j hlt
      have hcast : (F2 : Int) / 6 % (s.size : Int) = ((F2 / 6 % s.size : Nat) : Int) := by rw [Int.natCast_emod, Int.natCast_ediv]; rfl
      by_cases hji : F2 / 6 % s.size = j
      · have hjb : ((j : Int) == (F2 : Int) / 6 % (s.size : Int)) = true := by rw [beq_iff_eq, hcast, hji]
        rw [if_pos hji] at hget
        have HGET := Lib.hid hget
        clear hcast hji hget
        go_upto_region 15 with (fail)
        have hget := HGET.out
        rw [show bits BinOp.xor IntKind.u8 ((s[j]'hlt).toNat : Int) (2 ^ (F2 % 8) % 256) = _ from turn_bit (s[j]'hlt) _ (Nat.mod_lt _ (by omega))]
        obtain ⟨b', hbe⟩ : ∃ b' : UInt8, b' = (s[j]'hlt) ^^^ UInt8.ofNat (2 ^ (F2 % 8)) := ⟨_, rfl⟩
        have hb' : T[j]? = some b' := by rw [hbe]; exact hget
        rw [← hbe]
        clear hbe
        clear hjb hget HGET
        have hcv := conv_str (P := Try.prog) (w := wr.alloc (.cells #[.int .u8 b'.toNat] 5)) (a := some ⟨wr.heap.size, 0, none⟩) (c := 1) (bs := [b']) (n := 1) Try.underlying22 Try.underlying5 Try.underlying9 rfl (Blk.new wr 5 #[.int .u8 b'.toNat]).cells
        have hsn : bstr (T.take j) ++ bstr [b'] = bstr (T.take (j + 1)) := by rw [bstr_append, List.take_add_one, hb']; rfl
        have hno : ¬ (9223372036854775807 < (bstr (T.take j)).size + (bstr [b']).size) := by rw [bstr_size, bstr_size, List.length_take]; simp only [List.length_cons, List.length_nil]; omega
        have HSN := Lib.hid hsn
        clear hsn hb'
        go_wp2
        go_roundw
        case rel => exact ⟨j + 1, by omega, by go_num, by rw [HSN.out], hx.alloc _⟩
        case measure => simp [intOf]; omega
      · have hjb : ((j : Int) == (F2 : Int) / 6 % (s.size : Int)) = false := by rw [beq_eq_false_iff_ne, hcast]; omega
        rw [if_neg hji] at hget
        have HGET := Lib.hid hget
        clear hcast hji hget
        go_upto_region 15 with (fail)
        have hget := HGET.out
        obtain ⟨b', hbe⟩ : ∃ b' : UInt8, b' = s[j]'hlt := ⟨_, rfl⟩
        have hb' : T[j]? = some b' := by rw [hbe]; exact hget
        rw [← hbe]
        clear hbe
        clear hjb hget HGET
        have hcv := conv_str (P := Try.prog) (w := wr.alloc (.cells #[.int .u8 b'.toNat] 5)) (a := some ⟨wr.heap.size, 0, none⟩) (c := 1) (bs := [b']) (n := 1) Try.underlying22 Try.underlying5 Try.underlying9 rfl (Blk.new wr 5 #[.int .u8 b'.toNat]).cells
        have hsn : bstr (T.take j) ++ bstr [b'] = bstr (T.take (j + 1)) := by rw [bstr_append, List.take_add_one, hb']; rfl
        have hno : ¬ (9223372036854775807 < (bstr (T.take j)).size + (bstr [b']).size) := by rw [bstr_size, bstr_size, List.length_take]; simp only [List.length_cons, List.length_nil]; omega
        have HSN := Lib.hid hsn
        clear hsn hb'
        go_wp2
        go_roundw
        case rel => exact ⟨j + 1, by omega, by go_num, by rw [HSN.out], hx.alloc _⟩
        case measure => simp [intOf]; omega
    · obtain rfl : j = s.size := by omega
      have hfull : T.take s.size = T := List.take_of_length_le (by rw [HTL.out]; exact Nat.le_refl _)
      rw [hfull]
      go_wp2
      go_ret2
      rw [HOUT.out]
      exact ⟨r, rfl, HN4.out.ext hx, HG4.out.trans (hx.gb (some m)), .inl rfl⟩
end Go.Proofs.Ythleaofgodkehaa
