/- Great, with what it says of the bytes. -/
import Derived.Test.YtnggdkpaofbaaaaTabRef2
import Derived.Test.YtnggdkpaofbaaaaTabBytesPure
namespace Go.Proofs.Ytnggdkpaofbaaaa
open Go.RowKit Go.Shelf
set_option linter.unusedVariables false

def plN (l : List W3) : Nat := (l.map fun x => 1 + x.1.size + x.2.1.size).sum
theorem plN_snoc (l : List W3) (x : W3) : plN (l ++ [x]) = plN l + (1 + x.1.size + x.2.1.size) := by simp [plN]
theorem plN_cons (l : List W3) (x : W3) : plN (x :: l) = (1 + x.1.size + x.2.1.size) + plN l := by simp [plN]
theorem plN_append (a b : List W3) : plN (a ++ b) = plN a + plN b := by simp [plN]
theorem plN_len : ∀ l : List W3, l.length ≤ plN l
  | [] => Nat.le_refl _
  | x :: t => by have := plN_len t; rw [plN_cons, List.length_cons]; omega
theorem plN_mem : ∀ {l : List W3} {x : W3}, x ∈ l → x.1.size + x.2.1.size ≤ plN l
  | y :: t, x, h => by
    rw [plN_cons]
    rcases List.mem_cons.1 h with rfl | h
    · omega
    · have := plN_mem h; omega
theorem plN_ins (w : W3) : ∀ (d : Bool) (l : List W3), plN (ins w d l) ≤ plN l + (if d then 0 else 1 + w.1.size + w.2.1.size)
  | d, [] => by cases d <;> simp [ins, plN]
  | d, x :: t => by
    have ih := plN_ins w (d || !klt x.1 w.1) t
    rw [ins_step, plN_cons]
    have happ : ∀ a b : List W3, plN (a ++ b) = plN a + plN b := fun a b => by simp [plN]
    rw [happ, happ]
    have h1 : plN (if x.1 = w.1 then [] else [x]) ≤ 1 + x.1.size + x.2.1.size := by split <;> simp [plN]
    generalize plN (if x.1 = w.1 then [] else [x]) = q at *
    generalize hk : klt x.1 w.1 = kk at *
    have h2 : plN [w] = 1 + w.1.size + w.2.1.size := by simp [plN]
    cases d <;> cases kk <;> simp at * <;> simp [plN] at * <;> omega
theorem plN_fix (w : W3) : 1 + (fixW w).1.size + (fixW w).2.1.size ≤ 1 + w.1.size + w.2.1.size := by
  obtain ⟨k, v, g⟩ := w
  cases g
  · exact Nat.le_refl _
  · show 1 + k.size + 0 ≤ 1 + k.size + v.size
    omega
theorem plN_tab (l : List W3) : plN (tabOf l) ≤ plN l := by
  induction l using rev_ind with
  | h0 => exact Nat.le_refl _
  | h1 l w ih =>
    rw [tabOf_snoc, plN_snoc]
    have h1 := plN_ins (fixW w) false (tabOf l)
    have h2 := plN_fix w
    simp only [Bool.false_eq_true, if_false] at h1
    omega
theorem wrsN_le : ∀ l : List W3, plN l ≤ 1000000 → wrsN l ≤ 20 * l.length + plN l
  | [], _ => Nat.le_refl _
  | x :: t, h => by
    rw [plN_cons] at h
    have ih := wrsN_le t (by omega)
    have e : wrsN (x :: t) = wrN x + wrsN t := by simp [wrsN]
    rw [e, plN_cons, List.length_cons]
    have h1 := sizeN_64 (n := x.1.size) (by omega)
    have h2 := sizeN_64 (n := x.2.1.size) (by omega)
    unfold sizeN at h1 h2
    unfold wrN
    rw [show ∀ b : List UInt8, textB b = uintB b.length ++ b from fun _ => rfl, show ∀ b : List UInt8, textB b = uintB b.length ++ b from fun _ => rfl, List.length_append, List.length_append, str_len, str_len]
    omega
set_option maxRecDepth 50000 in
set_option maxHeartbeats 8000000 in
theorem rgreat2_calls (ls : List W3) (A : Option Addr) (n c : Nat) (most : Int) (w : World) (hr : Row w A 3 (ls.map wC)) (hn : ls.length = n) (hl : n ≤ 140737488351232) (hm : 0 ≤ most ∧ most ≤ 1000000) (hi : ∀ p ∈ ls, p.1.size ≤ 140737488351232 ∧ p.2.1.size ≤ 140737488351232) :
    Calls Try.prog 8 #[.slice A n c, .int .i64 most] w fun e w' => (∃ b, e = .returned (.bool b) ∧ (b = false → (plN ls : Int) ≤ most)) ∧ Ext w w' := by
  have Hr := Lib.hid hr
  have Hi := Lib.hid hi
  have Hn := Lib.hid hn
  clear hr hi hn
  go_enter Try.func8, Try.ntmps8
  go_upto_region 3 with (fail)
  go_loopw [10, 5] (fun i v wr => ∃ (k m : Nat), k ≤ n ∧ i = .int .i64 k ∧ v = .int .i64 m ∧ Hid (m = plN (ls.take k)) ∧ (m : Int) ≤ most ∧ Ext w wr) (fun i _ _ => n - (intOf i).toNat)
  case atStart => exact ⟨0, 0, Nat.zero_le _, rfl, rfl, Lib.hid rfl, by omega, Ext.refl _⟩
  case round =>
    obtain ⟨k, m, hk, rfl, rfl, hkm, hm2, hx⟩ := hrel
    by_cases hlt : k < n
    · have hkl : k < ls.length := by rw [Hn.out]; exact hlt
      obtain ⟨ad, rfl, hlc0⟩ := Hr.out.get (i := k) (by simpa using hkl)
      rw [List.getElem_map] at hlc0
      obtain ⟨hs1, hs2⟩ := Hi.out _ (List.getElem_mem hkl)
      obtain ⟨x, hxe⟩ : ∃ x, x = ls[k] := ⟨_, rfl⟩
      have hpl : plN (ls.take (k + 1)) = plN (ls.take k) + (1 + x.1.size + x.2.1.size) := by rw [List.take_add_one, List.getElem?_eq_getElem hkl, ← hxe]; exact plN_snoc _ _
      rw [← hkm.out] at hpl
      have HPL := Lib.hid hpl.symm
      clear hpl
      rw [← hxe] at hlc0 hs1 hs2
      have hlc : ∀ (j : Nat) (v : Value), (wC x)[j]? = some v → wr.cell? ((ad.add (k * 3)).add j) = some v := fun j v hj => hx.cell (hlc0 j v hj)
      clear hxe hlc0 hkl
      have hp0 : (0 : Int) ≤ (k : Int) := by omega
      have hp1 : (k : Int) < (n : Int) := by omega
      go_upto_region 5 with (first
        | (refine wpList_load_row_ rfl 46 (.tmp 12) rfl (ad.add (k * 3)) rfl (wC x) _ hlc Try.underlying46 rfl (by rw [w_info]; rfl) ?_)
        | (refine wpList_store_blk rfl 46 (.tmp 7) (.tmp 13) rfl rfl wr.heap.size (wC x).toArray rfl rfl _ _ (Blk.new wr _ _) rfl (by kernel_rfl) (wC_one x) ?_; intro w3 hb3 hg3; have hx3 : Ext wr w3 := ((Ext.refl _).alloc _).grown_ hg3 (by simp)))
      obtain ⟨x0, x1, x2⟩ := x
      have hs1' : x0.size ≤ 140737488351232 := hs1
      have hs2' : x1.size ≤ 140737488351232 := hs2
      have HPM : Hid (m + 1 + x0.size + x1.size = plN (ls.take (k + 1))) := Lib.hid (by rw [← HPL.out]; show _ = m + (1 + x0.size + x1.size); omega)
      clear HPL hlc hg3 hs1 hs2
      have p0 : w3.cell? ⟨wr.heap.size, 0, none⟩ = some (.string x0) := by rw [hb3.cell]; rfl
      have p1 : w3.cell? ⟨wr.heap.size, 1, none⟩ = some (.string x1) := by rw [hb3.cell]; rfl
      clear hb3
      by_cases hbig : most < (m : Int) + 1 + (x0.size : Int) + (x1.size : Int)
      · go_wp2
        go_ret
        exact ⟨⟨_, rfl, fun h => by cases h⟩, hx.trans hx3⟩
      · go_wp2
        go_roundw
        case rel => exact ⟨k + 1, m + 1 + x0.size + x1.size, by omega, by go_num, by go_num, HPM, by omega, hx.trans hx3⟩
        case measure => simp [intOf]; omega
    · obtain rfl : n = k := by omega
      go_wp2
      go_ret
      have hfin := hkm.out
      rw [← Hn.out, List.take_length] at hfin
      exact ⟨⟨_, rfl, fun _ => by rw [← hfin]; exact hm2⟩, hx⟩
end Go.Proofs.Ytnggdkpaofbaaaa
