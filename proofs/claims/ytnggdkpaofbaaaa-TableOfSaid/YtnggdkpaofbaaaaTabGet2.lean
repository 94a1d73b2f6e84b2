/- table.Get: what it answers. -/
import Derived.Test.YtnggdkpaofbaaaaTabGet
namespace Go.Proofs.Ytnggdkpaofbaaaa
open Go.RowKit Go.Shelf
set_option linter.unusedVariables false

def zW : W3 := (ByteArray.empty, ByteArray.empty, false)
set_option maxRecDepth 50000 in
theorem getNil_calls (k : ByteArray) (w : World) : Calls Try.prog 23 #[.pointer none, .string k] w fun e w' => e = .returned (.tuple #[.agg (wC zW).toArray, .bool false]) ∧ Ext w w' := by
  go_enter Try.func23, Try.ntmps23
  go_wp2_with (refine wpList_store_blk rfl 46 (.tmp 4) (.tmp 10) rfl rfl w.heap.size (wC zW).toArray rfl rfl _ _ (Blk.new w _ _) rfl (by kernel_rfl) (wC_one zW) ?_; intro w3 hb3 hg3; have hx3 : Ext w w3 := ((Ext.refl _).alloc _).grown_ hg3 (fun j e => by cases e; exact Nat.le_refl _))
  refine bodyPost_ret (results_row_tmp (P := Try.prog) (fn := Try.f23) rfl _ _ w.heap.size 46 (wC zW).toArray _ rfl hb3 Try.underlying46 rfl (by kernel_rfl)) rfl ?_
  exact ⟨rfl, hx3⟩
set_option maxRecDepth 50000 in
set_option maxHeartbeats 4000000 in
theorem get_calls (p : Nat) (l : List W3) (k : ByteArray) (w : World) (h : TabAt 0 w p l) (hl : l.length ≤ 1000000) (hs : SortedW l) :
    Calls Try.prog 23 #[.pointer (some ⟨p, 0, none⟩), .string k] w fun e w' => e = .returned (.tuple #[.agg (wC ((lookW k l).getD zW)).toArray, .bool (lookW k l).isSome]) ∧ Ext w w' := by
  obtain ⟨A, c, hb, ho⟩ := h
  have hrow : Row w A 3 (l.map wC) := by obtain ⟨_, _, e3, _, _, hc⟩ := own_form ho (by decide); cases e3; exact row_of_cells hc
  obtain ⟨n, hn⟩ : ∃ n, l.length = n := ⟨_, rfl⟩
  rw [hn] at hb hl
  have hq : p < w.heap.size := hb.lt
  have HB := Lib.hid hb
  have HR := Lib.hid hrow
  have HN := Lib.hid hn
  have HS := Lib.hid hs
  have HSE := Lib.hid (fun (u : World) (hu : Ext w u) => search_calls l A n c k u (hrow.ext hu) hn hl hs)
  clear hb ho hrow hn hs
  go_enter Try.func23, Try.ntmps23
  go_upto_region 1 with (fail)
  obtain ⟨w1, hw1⟩ : ∃ w1, w1 = w.alloc (.cells #[.string { data := #[] }, .string { data := #[] }, .bool false] 46) := ⟨_, rfl⟩
  have hx1 : Ext w w1 := by rw [hw1]; exact (Ext.refl _).alloc _
  have hb1 : Blk w1 w.heap.size 46 (wC zW).toArray := by rw [hw1]; exact Blk.new w _ _
  rw [← hw1]
  obtain ⟨g, hg⟩ : ∃ g, g = w.heap.size := ⟨_, rfl⟩
  rw [← hg] at hb1 ⊢
  have hg0 : w.heap.size ≤ g := by rw [hg]; exact Nat.le_refl _
  have HG := Lib.hid hb1
  clear hw1 hb1 hg
  have hc1 : w1.cell? ⟨p, 0, none⟩ = some (.slice A n c) := by rw [(HB.out.ext hx1).cell]; rfl
  go_upto_region 4 with (go_at_call 49; (with_reducible refine Calls.mono (HSE.out w1 hx1) ?_); rintro e w2 ⟨i, b, rfl, hx2, hres⟩)
  have HG2 := Lib.hid (HG.out.ext hx2)
  have hx02 := hx1.trans hx2
  have HRES := Lib.hid hres
  clear hres hc1
  cases b with
  | false =>
    have hno : lookW k l = none := look_none (by simpa using HRES.out)
    have HNO := Lib.hid hno
    clear hno
    go_wp2_with (refine wpList_store_blk rfl 46 (.tmp 4) (.tmp 22) rfl rfl g (wC zW).toArray rfl rfl _ _ HG2.out rfl (by kernel_rfl) (wC_one zW) ?_; intro w3 hb3 hg3; have hx3 : Ext w w3 := hx02.grown_ hg3 (fun j e => by cases e; exact hg0))
    refine bodyPost_ret (results_row_tmp (P := Try.prog) (fn := Try.f23) rfl _ _ g 46 (wC zW).toArray _ rfl hb3 Try.underlying46 rfl (by kernel_rfl)) rfl ?_
    rw [HNO.out]
    exact ⟨rfl, hx3⟩
  | true =>
    obtain ⟨x, hx, hxk⟩ : ∃ y, l[i]? = some y ∧ y.1 = k := by simpa using HRES.out
    have hlo := look_some HS.out hx hxk
    have HNO := Lib.hid hlo
    have hin : i < n := by have := (List.getElem?_eq_some_iff.1 hx).1; rw [HN.out] at this; exact this
    obtain ⟨ad, rfl, hlc0⟩ := HR.out.get (i := i) (by rw [List.length_map, HN.out]; exact hin)
    rw [List.getElem_map, (List.getElem?_eq_some_iff.1 hx).2] at hlc0
    have hlc : ∀ (a : Nat) (v : Value), (wC x)[a]? = some v → w2.cell? ((ad.add (i * 3)).add a) = some v := fun a v hv => hx02.cell (hlc0 a v hv)
    have hc2 : w2.cell? ⟨p, 0, none⟩ = some (.slice (some ad) n c) := by rw [(HB.out.ext hx02).cell]; rfl
    have hp0 : (0 : Int) ≤ (i : Int) := by omega
    have hp1 : (i : Int) < (n : Int) := by omega
    clear hlo hx hxk hlc0
    go_wp2_with (first
      | (refine wpList_load_row_ rfl 46 (.tmp 28) rfl (ad.add (i * 3)) rfl (wC x) _ hlc Try.underlying46 rfl (by rw [w_info]; rfl) ?_)
      | (refine wpList_store_blk rfl 46 (.tmp 4) (.tmp 29) rfl rfl g (wC x).toArray rfl rfl _ _ HG2.out rfl (by kernel_rfl) (wC_one x) ?_; intro w3 hb3 hg3; have hx3 : Ext w w3 := hx02.grown_ hg3 (fun j e => by cases e; exact hg0)))
    refine bodyPost_ret (results_row_tmp (P := Try.prog) (fn := Try.f23) rfl _ _ g 46 (wC x).toArray _ rfl hb3 Try.underlying46 rfl (by kernel_rfl)) rfl ?_
    rw [HNO.out]
    exact ⟨rfl, hx3⟩
theorem get_is (p : Nat) (l : List W3) (k : ByteArray) (w : World) (h : TabAt 0 w p l) (hl : l.length ≤ 1000000) (hs : SortedW l) (ro : Option W3) (hro : lookW k l = ro) (x : W3) (hx : ro.getD zW = x) (is : Bool) (his : ro.isSome = is) :
    Calls Try.prog 23 #[.pointer (some ⟨p, 0, none⟩), .string k] w fun e w' => e = .returned (.tuple #[.agg (wC x).toArray, .bool is]) ∧ Ext w w' := by
  subst hx his hro
  exact get_calls p l k w h hl hs
end Go.Proofs.Ytnggdkpaofbaaaa
