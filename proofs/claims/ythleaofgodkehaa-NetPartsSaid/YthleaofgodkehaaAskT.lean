/- net.Net.Ask: the way in which an answer is turned. Printed by wip/mkask3.py. -/
import Derived.Test.YthleaofgodkehaaAsk
import Derived.Test.YthleaofgodkehaaFnvPure
import Derived.Lib.ConvBytes
namespace Go.Proofs.Ythleaofgodkehaa
open Go.RowKit
set_option linter.unusedVariables false

/-- []byte(s): a new row, its cells the string's, none of them frozen. -/
theorem conv_turn (w : World) (s : ByteArray) : ∃ c w', (convert 9 22 (.string s)).run Try.prog w = .ok (.slice (some ⟨w.heap.size, 0, none⟩) s.size c) w' ∧ Ext w w' ∧
    (∀ j, j < s.size → w'.cell? ⟨w.heap.size, j, none⟩ = some (.int .u8 (s.data.toList.getD j 0).toNat)) ∧ ∀ j, j < s.size → w'.frozen? ⟨w.heap.size, j, none⟩ = false := by
  refine ⟨_, _, Lib.run_convert_string_bytes (P := Try.prog) w 9 22 5 s Try.underlying9 Try.underlying22 Try.underlying5, ?_, fun j hj => Lib.bytesWorld_cell w 5 s j hj, fun j hj => ?_⟩
  · refine ⟨?_, ?_, ?_, ?_, fun k hk => Lib.bytesWorld_at_old w 5 s k hk⟩
    · simp [Lib.bytesWorld, World.freeze, World.alloc, World.drew, -World.alloc_eq, -World.drew_eq]
    · simp [Lib.bytesWorld, World.freeze, World.alloc, World.drew, -World.alloc_eq, -World.drew_eq]
    · simp [Lib.bytesWorld, World.freeze, World.alloc, World.drew, -World.alloc_eq, -World.drew_eq]
    · rw [Lib.bytesWorld_size]; omega
  · have h := Lib.bytesWorld_at_new w 5 s
    have hsz : j < (Lib.bytesCells w 5 s).size := by
      simp only [Lib.bytesCells, Array.size_append, Array.size_map]
      have : s.data.size = s.size := rfl
      omega
    simp only [World.frozen?, h]
    simp
    omega
theorem getD_data (s : ByteArray) (i : Nat) (h : i < s.size) : s.data.toList.getD i 0 = s.data[i]'h := by
  have h' : i < s.data.size := h
  rw [List.getD_eq_getElem?_getD, Array.getElem?_toList, Array.getElem?_eq_getElem h', Option.getD_some]
theorem turn_bit (b : UInt8) (m : Nat) (hm : m < 8) : bits .xor .u8 (b.toNat : Int) (2 ^ m % 256) = ((b ^^^ UInt8.ofNat (2 ^ m)).toNat : Int) := by
  have h1 : ∀ m < 8, (2 : Int) ^ m % 256 = ((2 ^ m : Nat) : Int) ∧ (2 ^ m : Nat) < 256 ∧ (UInt8.ofNat (2 ^ m)).toNat = 2 ^ m := by decide
  obtain ⟨h2, h3, h4⟩ := h1 m hm
  rw [h2, bits_xor_u8_nat _ _ (UInt8.toNat_lt b) h3, UInt8.toNat_xor, h4]
theorem turn_cells {w : World} {g : Nat} {s : ByteArray} {i : Nat} {b : UInt8} (h : ∀ j, j < s.size → w.cell? ⟨g, j, none⟩ = some (.int .u8 (s.data.toList.getD j 0).toNat)) (hi : i < s.size) : Cells (w.setCell ⟨g, i, none⟩ (.int .u8 b.toNat)) (some ⟨g, 0, none⟩) (bv (s.data.toList.set i b)) := by
  intro j v hv
  have hj : j < (s.data.toList.set i b).length := by have := (List.getElem?_eq_some_iff.1 hv).1; rwa [bv_length] at this
  rw [bv_get hj] at hv
  rw [List.length_set, str_len] at hj
  refine ⟨_, rfl, ?_⟩
  rw [add_new, ← hv, List.getElem_set]
  by_cases e : i = j
  · subst e
    rw [if_pos rfl]
    exact World.cell?_setCell_same w _ _ (h i hi)
  · rw [if_neg e, World.cell?_setCell_other w _ _ _ (fun he => e (by cases he; rfl)), h j hj, getD_data s j hj]
    rfl
theorem Ext.setNew {a w : World} (h : Ext a w) {p : Addr} (hp : a.heap.size ≤ p.block) (u : Value) : Ext a (w.setCell p u) :=
  ⟨h.os, h.tape, h.output, by simpa using h.size, fun k hk => (heap_setCell_other w p k u (by omega)).trans (h.block k hk)⟩


set_option maxRecDepth 50000 in
set_option maxHeartbeats 4000000 in
theorem ask_turn (B n : Nat) (q : Option Nat) (fs : List UInt8) (ls : List ByteArray) (k : Nat) (w : World) (h : NetAt B w n q fs ls k) (hk : k < 1000000) (hB : B ≤ w.heap.size) (gp b : Nat) (L : List Ent1) (hp : PoolAt w gp b L) (x : List UInt8) (hx : x.length = 33) (h1 : (fs.headD 0).toNat % 2 ≠ 1) (s : ByteArray) (hr : at1 x L = some s) (h2 : (fs.tail.headD 0).toNat % 6 = 2) (hs : s.size ≠ 0) :
    AskC B n q fs ls k w gp x fs.tail.tail ls (some (turnB s (fs.tail.headD 0))) := by
  have HX := Lib.hid hx
  obtain ⟨F1, hF1⟩ : ∃ F1, F1 = (fs.headD 0).toNat := ⟨_, rfl⟩
  obtain ⟨F2, hF2⟩ : ∃ F2, F2 = (fs.tail.headD 0).toNat := ⟨_, rfl⟩
  have hF1r : F1 < 256 := by rw [hF1]; exact UInt8.toNat_lt _
  have hF2r : F2 < 256 := by rw [hF2]; exact UInt8.toNat_lt _
  have e1 : ((F1 : Int) % 2 == 1) = false := by rw [← hF1] at h1; simp; omega
  have HOB := Lib.hid (show ∀ (w' : World), PoolAt w' gp b L → Calls Try.prog 36 #[.pointer (some ⟨gp, 0, none⟩), .agg (bv x).toArray] w' fun e w'' => e = .returned (.tuple #[.string s, .int .i64 0]) ∧ Ext w' w'' from fun w' h' => by have h := pobject_calls gp b L x w' h' hx; rw [hr] at h; exact h)
  have m1 : ((F2 : Int) % 6 == 1) = false := by rw [← hF2] at h2; simp; omega
  have m2 : ((F2 : Int) % 6 == 2) = true := by rw [← hF2] at h2; simp; omega
  have hs0 : ((s.size : Int) == 0) = false := by rw [beq_eq_false_iff_ne]; omega
  have hJl : F2 / 6 % s.size < s.size := Nat.mod_lt _ (by omega)
  have hJi : 0 ≤ (F2 : Int) / 6 % (s.size : Int) ∧ (F2 : Int) / 6 % (s.size : Int) < (s.size : Int) := ⟨Int.emod_nonneg _ (by omega), Int.emod_lt_of_pos _ (by omega)⟩
  have HOUT := Lib.hid (show turnB s (fs.tail.headD 0) = bstr (s.data.toList.set (F2 / 6 % s.size) (s.data.toList.getD (F2 / 6 % s.size) 0 ^^^ UInt8.ofNat (2 ^ (F2 % 8)))) from by rw [hF2]; rfl)

  have hfa := fun (w' : World) (h' : NetAt B w' n q fs ls (k + 1)) => fate_calls B n q fs ls (k + 1) w' h'
  have hfb := fun (w' : World) (h' : NetAt B w' n q fs.tail ls (k + 1)) => fate_calls B n q fs.tail ls (k + 1) w' h'
  rw [← hF1] at hfa
  rw [← hF2] at hfb
  have HFA := Lib.hid hfa
  have HFB := Lib.hid hfb
  clear hfa hfb hF1 hF2
  have hmeth := obj_method gp 176
  unfold AskC
  go_enter Try.func13, Try.ntmps13
  obtain ⟨w1, hw1⟩ : ∃ w1, w1 = w.alloc (.cells (bv x).toArray 38) := ⟨_, rfl⟩
  have hx1 : Ext w w1 := by rw [hw1]; exact (Ext.refl _).alloc _
  have HI := Lib.hid (show Blk w1 w.heap.size 38 (bv x).toArray from by rw [hw1]; exact Blk.new w _ _)
  have H1 := Lib.hid (h.ext hx1)
  have HP := Lib.hid (hp.ext hx1)
  go_upto_region 1 with (fail)
  rw [← hw1]
  obtain ⟨gi, hgi⟩ : ∃ gi, gi = w.heap.size := ⟨_, rfl⟩
  rw [← hgi] at HI ⊢
  clear hw1 hgi h hp hx
  obtain ⟨fv, qv, hb, hf, hq⟩ := id H1.out
  have c2 : w1.cell? ⟨n, 2, none⟩ = some (.int .i64 k) := by rw [hb.cell]; rfl
  have f2 := hb.frozen 2
  have hg1 := grown_set w1 n 2 (.int .i64 ((k : Int) + 1))
  have HT1 := Lib.hid (show Two w _ n q from (Two.of_ext hx1).trans (Two.one (q := q) hg1) (.inl rfl))
  have HN1 := Lib.hid (NetAt.turn (k' := k + 1) hg1 hb hf hq (hb.set 2 _))
  have HI1 := Lib.hid (Blk.grown HI.out hg1 (fun e => HI.out.ne hb ne_id.1 (Option.some.inj e)))
  have HP1 := Lib.hid (HP.out.two H1.out (Two.one (q := q) hg1))
  clear hb hf hq
  go_upto_region 18 with (first
    | (go_at_call 19; (with_reducible refine (HFA.out _ HN1.out).mono ?_); rintro e w2 ⟨rfl, hN2, ht2⟩; have HN2 := Lib.hid hN2; have HT2 := Lib.hid (HT1.out.trans ht2 (.inl rfl)); have HI2 := Lib.hid (idblk_two HI1.out HN1.out ht2); have HP2 := Lib.hid (HP1.out.two HN1.out ht2); have hcx : ∀ (j : Nat) (v : Value), (bv x)[j]? = some v → w2.cell? ((⟨gi, 0, none⟩ : Addr).add j) = some v := (fun j v hv => by have h := HI2.out.cells; rw [List.toList_toArray] at h; obtain ⟨y, hy, hc⟩ := h j v hv; cases hy; exact hc); clear hN2 ht2)
    | (refine wpList_load_row_ rfl 38 (.tmp 5) rfl ⟨gi, 0, none⟩ rfl (bv x) _ hcx Try.underlying38 rfl (by rw [id_info, bv_length, HX.out]) ?_)
    | (go_at_call 36; (with_reducible refine (HOB.out w2 HP2.out).mono ?_); rintro e w3 ⟨rfl, hx3⟩; have HN3 := Lib.hid (HN2.out.ext hx3); have HT3 := Lib.hid (HT2.out.trans (Two.of_ext (n := n) (q := q) hx3) (.inl rfl)))
    | (go_at_call 19; (with_reducible refine (HFB.out _ HN3.out).mono ?_); rintro e w4 ⟨rfl, hN4, ht4⟩; have HN4 := Lib.hid hN4; have HT4 := Lib.hid (HT3.out.trans ht4 (.inl rfl)); clear hN4 ht4; obtain ⟨c5, w5, hcv5, hx5, hc5, hf5⟩ := conv_turn w4 s; have hcJ := hc5 (F2 / 6 % s.size) hJl; rw [getD_data s _ hJl] at hcJ; have hfJ := hf5 (F2 / 6 % s.size) hJl; have HC5 := Lib.hid hc5; have HF5 := Lib.hid hf5; clear hc5 hf5))
  go_upto_region 19 with (fail)
  obtain ⟨b', hb'⟩ : ∃ b' : UInt8, b' = s.data.toList.getD (F2 / 6 % s.size) 0 ^^^ UInt8.ofNat (2 ^ (F2 % 8)) := ⟨_, rfl⟩
  have hv : bits BinOp.xor IntKind.u8 ((s.data[F2 / 6 % s.size]'hJl).toNat : Int) (2 ^ (F2 % 8) % 256) = (b'.toNat : Int) := by
    rw [hb', getD_data s _ hJl]
    exact turn_bit _ _ (Nat.mod_lt _ (by omega))
  rw [hv]
  have hx6 := (Two.of_ext (n := n) (q := q) hx5)
  have hlen : (s.data.toList.set (F2 / 6 % s.size) b').length = s.size := by rw [List.length_set, str_len]
  have hcs := turn_cells (b := b') HC5.out hJl
  have hx7 : Ext w4 (w5.setCell ⟨w4.heap.size, F2 / 6 % s.size, none⟩ (.int .u8 b'.toNat)) := hx5.setNew (Nat.le_refl _) _
  have hcv6 := conv_str (P := Try.prog) (c := c5) Try.underlying22 Try.underlying5 Try.underlying9 hlen hcs
  rw [← hb'] at HOUT
  clear hcJ hfJ HC5 HF5 hv hb' hcs
  go_wp2
  go_ret2
  rw [HOUT.out]
  exact ⟨q, rfl, HN4.out.ext hx7, HT4.out.trans (Two.of_ext (n := n) (q := q) hx7) (.inl rfl), .inl rfl⟩
end Go.Proofs.Ythleaofgodkehaa
