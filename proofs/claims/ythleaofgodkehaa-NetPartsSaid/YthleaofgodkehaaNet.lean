/- net.Net: where one lies; New, fate, Asked, Late. -/
import Derived.Test.YthleaofgodkehaaQueue
import Derived.Test.YthleaofgodkehaaPool
namespace Go.Proofs.Ythleaofgodkehaa
open Go.RowKit
set_option linter.unusedVariables false

def Fates (w : World) (v : Value) (fs : List UInt8) : Prop := ∃ A c, v = .slice A fs.length c ∧ fs.length ≤ c ∧ Cells w A (bv fs) ∧ ∀ x, A = some x → ∃ cur, Blk w x.block 5 cur
theorem Fates.of_own {B : Nat} {w : World} {v : Value} {fs : List UInt8} (h : Own B w v fs) : Fates w v fs := by
  obtain ⟨A, c, e, l, _, hc⟩ := h.form
  subst e
  refine ⟨A, c, rfl, l, hc, fun x hx => ?_⟩
  rcases h.2 with ⟨e, _⟩ | ⟨g, cap, cur, e, hb, hgg, _⟩
  · simp at e; rw [e.1] at hx; cases hx
  · simp at e
    rw [e.1] at hx
    cases hx
    exact ⟨cur, hgg⟩
theorem Fates.grown {w w' : World} {v : Value} {fs : List UInt8} (h : Fates w v fs) {row : Option Nat} (hg : w.grownBy w' row) (hne : ∀ k cur, Blk w k 5 cur → some k ≠ row) : Fates w' v fs := by
  obtain ⟨A, c, e, l, hc, hb⟩ := h
  refine ⟨A, c, e, l, hc.grown hg (fun x hx => by obtain ⟨cur, hk⟩ := hb x hx; exact hne _ _ hk), fun x hx => ?_⟩
  obtain ⟨cur, hk⟩ := hb x hx
  exact ⟨cur, hk.grown hg (hne _ _ hk)⟩
theorem Fates.ext {w w' : World} {v : Value} {fs : List UInt8} (h : Fates w v fs) (k : Ext w w') : Fates w' v fs := by
  obtain ⟨A, c, e, l, hc, hb⟩ := h
  exact ⟨A, c, e, l, hc.ext k, fun x hx => by obtain ⟨cur, hk⟩ := hb x hx; exact ⟨cur, hk.ext k⟩⟩
/-- Block n is a net with these fates, these answers that wait (their row: q), that was asked so often. -/
def NetAt (B : Nat) (w : World) (n : Nat) (q : Option Nat) (fs : List UInt8) (ls : List ByteArray) (k : Nat) : Prop :=
  ∃ fv qv, Blk w n 54 #[fv, qv, .int .i64 k] ∧ Fates w fv fs ∧ QRow B w qv q ls
/-- Only blocks n and q have turned. -/
structure Two (w w' : World) (n : Nat) (q : Option Nat) : Prop where
  os : w'.os = w.os
  tape : w'.tape = w.tape
  output : w'.output = w.output
  size : w.heap.size ≤ w'.heap.size
  block : ∀ k < w.heap.size, k ≠ n → some k ≠ q → w'.heap[k]? = w.heap[k]?
theorem Two.refl (w : World) (n : Nat) (q : Option Nat) : Two w w n q := ⟨rfl, rfl, rfl, Nat.le_refl _, fun _ _ _ _ => rfl⟩
theorem Two.one {w w' : World} {n : Nat} {q : Option Nat} (h : w.grownBy w' (some n)) : Two w w' n q := ⟨h.os, h.tape, h.output, h.size, fun k hk hn _ => h.block k hk (fun e => hn (Option.some.inj e))⟩
theorem Two.row {w w' : World} {n : Nat} {q : Option Nat} (h : w.grownBy w' q) : Two w w' n q := ⟨h.os, h.tape, h.output, h.size, fun k hk _ hq => h.block k hk hq⟩
theorem Two.of_ext {w w' : World} {n : Nat} {q : Option Nat} (h : Ext w w') : Two w w' n q := ⟨h.os, h.tape, h.output, h.size, fun k hk _ _ => h.block k hk⟩
theorem Two.trans {a b c : World} {n : Nat} {q q' : Option Nat} (h : Two a b n q) (k : Two b c n q') (hq : q' = q ∨ ∃ j, q' = some j ∧ a.heap.size ≤ j) : Two a c n q :=
  ⟨k.os.trans h.os, k.tape.trans h.tape, k.output.trans h.output, Nat.le_trans h.size k.size, fun j hj hn hne => (k.block j (Nat.lt_of_lt_of_le hj h.size) hn (by
    rcases hq with rfl | ⟨i, rfl, hi⟩
    · exact hne
    · intro e
      have := Option.some.inj e
      omega)).trans (h.block j hj hn hne)⟩
theorem Two.ext {w0 w w' : World} {n : Nat} {q : Option Nat} (h : Two w w' n q) (k : Ext w0 w) (hn : w0.heap.size ≤ n) (hq : ∀ j, q = some j → w0.heap.size ≤ j) : Ext w0 w' :=
  ⟨h.os.trans k.os, h.tape.trans k.tape, h.output.trans k.output, Nat.le_trans k.size h.size, fun j hj => (h.block j (Nat.lt_of_lt_of_le hj k.size) (by omega) (fun e => by have := hq j e.symm; omega)).trans (k.block j hj)⟩
theorem Two.blk {w w' : World} {n : Nat} {q : Option Nat} (h : Two w w' n q) {g : Nat} {t : TypeId} {cs : Array Value} (hb : Blk w g t cs) (hn : g ≠ n) (hq : some g ≠ q) : Blk w' g t cs := (h.block g hb.lt hn hq).trans hb
theorem NetAt.ext {B : Nat} {w w' : World} {n k : Nat} {q : Option Nat} {fs : List UInt8} {ls : List ByteArray} (h : NetAt B w n q fs ls k) (x : Ext w w') : NetAt B w' n q fs ls k := by
  obtain ⟨fv, qv, h1, h2, h3⟩ := h
  exact ⟨fv, qv, h1.ext x, h2.ext x, h3.ext x⟩
theorem NetAt.ge {B : Nat} {w : World} {n k : Nat} {q : Option Nat} {fs : List UInt8} {ls : List ByteArray} (h : NetAt B w n q fs ls k) : ∀ j, q = some j → B ≤ j := by
  obtain ⟨fv, qv, h1, h2, h3⟩ := h
  exact h3.ge
theorem ne_types : (5 ≠ 54 ∧ 9 ≠ 54 ∧ 5 ≠ 9 ∧ 52 ≠ 54 ∧ 52 ≠ 9) ∧ (35 ≠ 54 ∧ 35 ≠ 9 ∧ 35 ≠ 5) := by decide
/-- A net where only its own block turned. -/
theorem NetAt.turn {B : Nat} {w w' : World} {n : Nat} {q : Option Nat} {fs' : List UInt8} {ls' : List ByteArray} {fv qv fv' qv' : Value} {z : Value} {k' : Nat}
    (hg : w.grownBy w' (some n)) (hb : Blk w n 54 #[fv, qv, z]) (hf : Fates w fv' fs') (hq : QRow B w qv' q ls') (hb' : Blk w' n 54 #[fv', qv', .int .i64 k']) : NetAt B w' n q fs' ls' k' :=
  ⟨fv', qv', hb', hf.grown hg (fun k cur hk e => hb.ne hk (Ne.symm ne_types.1.1) (Option.some.inj e).symm), hq.grown hg (fun k hk e => by obtain ⟨cur, hc⟩ := hq.str k hk; exact hb.ne hc (Ne.symm ne_types.1.2.1) (Option.some.inj e).symm)⟩
theorem fates_tail {w : World} {A A' : Option Addr} {n c' : Nat} {fs : List UInt8} (h : ∀ x, A = some x → ∃ cur, Blk w x.block 5 cur) (hs : Same A A') (hc : Cells w A' (bv fs.tail)) (hl : fs.tail.length ≤ c') (hn : n = fs.tail.length) : Fates w (.slice A' n c') fs.tail := by
  subst hn
  refine ⟨A', c', rfl, hl, hc, fun x hx => ?_⟩
  obtain ⟨y, hy, e⟩ := hs x hx
  rw [e]
  exact h y hy
theorem nsize_u8 : (Try.prog.info? 5).map (·.size) = some 1 := by kernel_rfl

set_option maxRecDepth 50000 in
theorem netNew_calls (A : Option Addr) (n c : Nat) (fs : List UInt8) (w : World) (h : Cells w A (bv fs)) (hn : fs.length = n) (hc : n ≤ c) (hl : n ≤ 140737488351232) :
    Calls Try.prog 12 #[.slice A n c] w fun e w' => ∃ g, e = .returned (.pointer (some ⟨g, 0, none⟩)) ∧ w.heap.size ≤ g ∧ NetAt w.heap.size w' g none fs [] 0 ∧ Ext w w' := by
  go_enter Try.func12, Try.ntmps12
  go_wp2_with (at_builtin; refine wpList_append_u8 _ rfl (.const (.slice none 0 0)) (.tmp 3) rfl w.heap.size _ [] rfl (Own.nil _ _) A n c fs rfl hn h (by simp; omega) (Nat.le_refl _) ?_; intro v1 w1 hown hg _; have hx := (Own.nil w.heap.size w).grows (Ext.refl _) hg; rw [List.nil_append] at hown; have hF := Fates.of_own hown; obtain ⟨A1, c1, hv1, _⟩ := hown.form; subst hv1; rw [hn] at hF; clear hg)
  go_ret
  exact ⟨_, rfl, hx.size, ⟨_, _, Blk.new w1 _ _, hF.ext ((Ext.refl _).alloc _), QRow.nil _ _⟩, hx.alloc _⟩
set_option maxRecDepth 50000 in
theorem fate_calls (B n : Nat) (q : Option Nat) (fs : List UInt8) (ls : List ByteArray) (k : Nat) (w : World) (h : NetAt B w n q fs ls k) :
    Calls Try.prog 19 #[.pointer (some ⟨n, 0, none⟩)] w fun e w' => e = .returned (.int .u8 (fs.headD 0).toNat) ∧ NetAt B w' n q fs.tail ls k ∧ Two w w' n q := by
  obtain ⟨fv, qv, hb, ⟨A, c, rfl, hl, hc, hA⟩, hq⟩ := id h
  have c0 : w.cell? ⟨n, 0, none⟩ = some (.slice A fs.length c) := by rw [hb.cell]; rfl
  have f0 := hb.frozen 0
  cases fs with
  | nil =>
    go_enter Try.func19, Try.ntmps19
    go_wp2
    go_ret
    exact ⟨rfl, h, Two.refl _ _ _⟩
  | cons f fs =>
    obtain ⟨x, rfl, hx⟩ := hc.byte (i := 0) (by simp)
    rw [add_zero] at hx
    go_enter Try.func19, Try.ntmps19
    go_wp2_with (first
      | (refine wpList_slice_from rfl 22 5 (.tmp 20) (.const (.int .i64 1)) rfl Try.underlying22 1 nsize_u8 (some x) (fs.length + 1) c 1 .i64 rfl rfl (by omega) hl hc (by rw [bv_length, Nat.mul_one]; rfl) ?_; intro A' hA' hS'))
    go_ret
    rw [Nat.mul_one] at hA'
    have hg := grown_set w n 0 (.slice A' fs.length (c - 1))
    have hl' : fs.length + 1 ≤ c := hl
    exact ⟨rfl, NetAt.turn hg hb (fates_tail hA hS' hA' (by show fs.length ≤ c - 1; omega) rfl) hq (hb.set 0 _), Two.one hg⟩
set_option maxRecDepth 50000 in
theorem asked_calls (B n : Nat) (q : Option Nat) (fs : List UInt8) (ls : List ByteArray) (k : Nat) (w : World) (h : NetAt B w n q fs ls k) :
    Calls Try.prog 16 #[.pointer (some ⟨n, 0, none⟩)] w fun e w' => e = .returned (.int .i64 k) ∧ w = w' := by
  obtain ⟨fv, qv, hb, hf, hq⟩ := h
  have c2 : w.cell? ⟨n, 2, none⟩ = some (.int .i64 k) := by rw [hb.cell]; rfl
  clear hf hq hb
  go_enter Try.func16, Try.ntmps16
  go_wp2
  go_ret
  exact ⟨rfl, rfl⟩
set_option maxRecDepth 50000 in
theorem late_calls (B n : Nat) (q : Option Nat) (fs : List UInt8) (ls : List ByteArray) (k : Nat) (w : World) (h : NetAt B w n q fs ls k) :
    Calls Try.prog 17 #[.pointer (some ⟨n, 0, none⟩)] w fun e w' => e = .returned (.int .i64 ls.length) ∧ w = w' := by
  obtain ⟨fv, qv, hb, hf, hq⟩ := h
  obtain ⟨A, c, rfl, hl⟩ := hq.form
  have c1 : w.cell? ⟨n, 1, none⟩ = some (.slice A ls.length c) := by rw [hb.cell]; rfl
  clear hf hq hb
  go_enter Try.func17, Try.ntmps17
  go_wp2
  go_ret
  exact ⟨rfl, rfl⟩
set_option maxRecDepth 50000 in
theorem asked_nil (w : World) : Calls Try.prog 16 #[.pointer none] w fun e w' => e = .returned (.int .i64 0) ∧ w = w' := by
  go_enter Try.func16, Try.ntmps16
  go_wp2
  go_ret
  exact ⟨rfl, rfl⟩
set_option maxRecDepth 50000 in
theorem late_nil (w : World) : Calls Try.prog 17 #[.pointer none] w fun e w' => e = .returned (.int .i64 0) ∧ w = w' := by
  go_enter Try.func17, Try.ntmps17
  go_wp2
  go_ret
  exact ⟨rfl, rfl⟩
theorem netq_ne {B n k : Nat} {w : World} {q : Option Nat} {fs : List UInt8} {ls : List ByteArray} (h : NetAt B w n q fs ls k) : some n ≠ q := by
  obtain ⟨fv, qv, hb, hf, hq⟩ := h
  intro e
  obtain ⟨cur, hc⟩ := hq.str n e.symm
  exact hb.ne hc (Ne.symm ne_types.1.2.1) rfl
theorem fates_ne {B : Nat} {w : World} {qv : Value} {q : Option Nat} {ls : List ByteArray} (hq : QRow B w qv q ls) : ∀ k cur, Blk w k 5 cur → some k ≠ q := by
  intro k cur hk e
  obtain ⟨cur', hc⟩ := hq.str k e.symm
  exact hk.ne hc ne_types.1.2.2.1 rfl
end Go.Proofs.Ythleaofgodkehaa
