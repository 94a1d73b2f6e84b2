/- tree.read: an object that is there and is as its name says. Printed by wip/mktreeread.py. -/
import Derived.Test.YtcnhbodemabbdaaDoorQ33
import Derived.Test.YtcnhbodemabbdaaDoorQ28
import Derived.Test.YtcnhbodemabbdaaDoorQ45
import Derived.Test.YtcnhbodemabbdaaDoorQ27
import Derived.Test.YtcnhbodemabbdaaDoorQ26
import Derived.Test.YtcnhbodemabbdaaDoorQ46
import Derived.Test.YtcnhbodemabbdaaDoorQ12
import Derived.Test.YtcnhbodemabbdaaDoorQ30
import Derived.OwnWalk
namespace Go.Proofs.YtcnhbodemabbdaaDoor
open Go.RowKit
set_option linter.unusedVariables false

theorem row_stored {w w' : World} {A : Option Addr} {g k : Nat} {T : TypeId} {nc : Array Value} {css : List (List Value)} (h : Row w A k css) (hs : ∀ cs ∈ css, ∃ s, cs[0]? = some (Value.string s)) (hb : Blk w g T nc) (hn : ∀ (i : Nat) (s : ByteArray), nc[i]? ≠ some (.string s)) (hg : w.grownBy w' (some g)) : Row w' A k css := by
  intro i cs hi
  obtain ⟨hl, x, hx, hc⟩ := h i cs hi
  refine ⟨hl, x, hx, fun j v hv => hg.cell (hc j v hv) ?_⟩
  obtain ⟨s, h0⟩ := hs cs (List.mem_of_getElem? hi)
  rw [block_add, block_add]
  intro e
  exact hn _ s (cell_blk hb (by rw [block_add, block_add]; exact Option.some.inj e) (hc 0 _ h0))
theorem TrAt.stored {w w' : World} {t : Tr} {pa ka : Option Addr} {P K pc kc g : Nat} {T : TypeId} {nc : Array Value} (h : TrAt w t pa ka P K pc kc) (hb : Blk w g T nc) (hn : ∀ (i : Nat) (s : ByteArray), nc[i]? ≠ some (.string s)) (hg : w.grownBy w' (some g)) : TrAt w' t pa ka P K pc kc :=
  ⟨h.hp, h.hk, h.lp, h.lk, row_stored h.cp (fun cs hcs => by obtain ⟨p, _, rfl⟩ := List.mem_map.1 hcs; exact ⟨_, rfl⟩) hb hn hg, row_stored h.ck (fun cs hcs => by obtain ⟨p, _, rfl⟩ := List.mem_map.1 hcs; exact ⟨_, rfl⟩) hb hn hg, h.bp, h.bk, h.sp, h.sk⟩
theorem no_str2 (v1 v2 : Value) (h1 : ∀ s, v1 ≠ .string s) (h2 : ∀ s, v2 ≠ .string s) : ∀ (i : Nat) (s : ByteArray), (#[v1, v2] : Array Value)[i]? ≠ some (.string s) := by
  intro i s
  match i with
  | 0 => intro e; exact h1 s (Option.some.inj e)
  | 1 => intro e; exact h2 s (Option.some.inj e)
  | n + 2 => intro e; cases (show (none : Option Value) = _ from (Array.getElem?_eq_none (by simp)).symm.trans e)

set_option maxRecDepth 100000 in
set_option maxHeartbeats 8000000 in
theorem tread_ok (gp b : Nat) (L : List Ent1) (k : UInt8) (bs : List UInt8) (t : Tr) (w : World) (h : PoolAt w gp b L) (hk : 0 < idN k) (hat : at1 (idPad (idName k bs)) L = some (bstr bs)) (hd : decT bs = some t) (hl : bs.length ≤ 1048576) (hT : Tab w) :
    Calls Tryd.prog 49 #[.iface 39 (.pointer (some ⟨gp, 0, none⟩)), .agg (bv (idPad (idName k bs))).toArray] w fun e w' => ∃ (pa ka : Option Addr) (P K pc kc : Nat), e = .returned (.tuple #[tra pa P pc ka K kc, .int .i64 0]) ∧ TrAt w' t pa ka P K pc kc ∧ Ext w w' := by
  obtain ⟨xs, hxs⟩ := id_head bs hk
  have hx33 : (idPad (idName k bs)).length = 33 := idPad_len (idName_len _ _)
  have hof := fun (A : Option Addr) (n c : Nat) (u : World) (hb : Cells u A (bv bs)) (hn : bs.length = n) (hc : n ≤ c) (hT : Tab u) => idof_calls k A n c bs u hb hn hc (by omega) hT
  unfold idv at hof
  obtain ⟨x, hx⟩ : ∃ x, x = idPad (idName k bs) := ⟨_, rfl⟩
  rw [← hx] at hxs hx33 hof hat ⊢
  have hne : x ≠ idNone := fun e => by
    rw [hxs] at e
    have h1 : k = 0 := (List.cons.inj e).1
    rw [h1] at hk
    cases hk
  have HX := Lib.hid hx33
  have HXS := Lib.hid hxs
  have HOF := Lib.hid hof
  have HTB0 := Lib.hid hT
  have HEQ : Hid (∀ u : World, (Op.equalIn 10000 27 (.agg (bv x).toArray) (.agg (bv x).toArray)).run Tryd.prog u = .ok true u) := Lib.hid (fun u => by have := id_equal x x hx33 hx33 u; rwa [show (x == x) = true from by simp] at this)
  have HNE : Hid (∀ u : World, (Op.equalIn 10000 27 (.agg (bv x).toArray) (.agg (bv idNone).toArray)).run Tryd.prog u = .ok false u) := Lib.hid (fun u => by have := id_equal x idNone hx33 rfl u; rwa [show (x == idNone) = false from by simpa using hne] at this)
  have HOB := Lib.hid (show ∀ (u : World), PoolAt u gp b L → Calls Tryd.prog 142 #[.pointer (some ⟨gp, 0, none⟩), .agg (bv x).toArray] u fun e w'' => e = .returned (.tuple #[.string (bstr bs), .int .i64 0]) ∧ Ext u w'' from fun u h' => by have h := pobject_calls gp b L x u h' hx33; rw [hat] at h; exact h)
  have HGT0 : Hid (∀ (A : Option Addr) (n c : Nat) (u : World), Cells u A (bv bs) → bs.length = n → Calls Tryd.prog 82 #[.slice A n c] u fun e w' => ∃ (pa ka : Option Addr) (P K pc kc : Nat), e = .returned (.tuple #[tra pa P pc ka K kc, .int .i64 0]) ∧ TrAt w' t pa ka P K pc kc ∧ Ext u w') := Lib.hid (fun A n c u hb hn => by
    have h1 := getTree_calls A n c bs u hb hn (by omega)
    rw [hd] at h1
    exact h1)
  have hmeth := tpool_method gp 304
  clear hof hne hat hd hx hxs
  go_enter Tryd.func49, Tryd.ntmps49
  obtain ⟨w1, hw1⟩ : ∃ w1, w1 = (w.alloc (.cells (bv x).toArray 27)).alloc (.cells #[.slice none 0 0, .slice none 0 0] 73) := ⟨_, rfl⟩
  have hx1 : Ext w w1 := by rw [hw1]; exact ((Ext.refl _).alloc _).alloc _
  have hbi : Blk w1 w.heap.size 27 (bv x).toArray := by rw [hw1]; exact (Blk.new w _ _).ext ((Ext.refl _).alloc _)
  have hbt : Blk w1 (w.heap.size + 1) 73 #[.slice none 0 0, .slice none 0 0] := by rw [hw1]; exact Blk.new_at (by simp) _ _
  have HP1 := Lib.hid (h.ext hx1)
  go_upto_region 1 with (fail)
  rw [← hw1]
  obtain ⟨g3, hg3⟩ : ∃ g, g = w.heap.size := ⟨_, rfl⟩
  obtain ⟨g4, hg4e⟩ : ∃ g, g = w.heap.size + 1 := ⟨_, rfl⟩
  have hg4 : w.heap.size ≤ g4 := by omega
  rw [← hg4e] at hbt ⊢
  rw [← hg3] at hbi ⊢
  have HBT := Lib.hid hbt
  have hci := hbi.cells
  rw [List.toList_toArray] at hci
  have HCI1 := Lib.hid hci
  have hcx : ∀ (j : Nat) (v : Value), (bv x)[j]? = some v → w1.cell? ((⟨g3, 0, none⟩ : Addr).add j) = some v := fun j v hv => by
    obtain ⟨y, hy, hc⟩ := hci j v hv
    cases hy
    exact hc
  have HCX := Lib.hid hcx
  clear hw1 hbi hbt hg3 hg4e h hci hcx hT
  go_upto_region 4 with (first
    | (refine wpList_load_row_ rfl 27 (.tmp 3) rfl ⟨g3, 0, none⟩ rfl (bv x) _ HCX.out Tryd.underlying27 rfl (by rw [id_info, bv_length, HX.out]) ?_)
    | (go_at_call 142; (with_reducible refine (HOB.out w1 HP1.out).mono ?_); rintro e w2 ⟨rfl, hx2⟩))
  have hx12 := hx1.trans hx2
  have HCI := Lib.hid (HCI1.out.ext hx2)
  have HB42 := Lib.hid (HBT.out.ext hx2)
  have HTB := Lib.hid (HTB0.out.ext hx12)
  have HC0 : Hid (∀ u : World, Ext w2 u → u.cell? ⟨g3, 0, none⟩ = some (.int .u8 k.toNat)) := Lib.hid (fun u hu => by
    obtain ⟨y, hy, hc⟩ := HCI.out.ext hu 0 (.int .u8 k.toNat) (by rw [HXS.out]; rfl)
    cases hy
    exact hc)
  clear hmeth hx1 hx2
  refine wp_region_ops (FInv [18, 19, 20, 21, 22, 23, 24, 25, 26, 27, 28, 29] _ w2.drew [⟨0, none, 18, .val (.pointer (some ⟨g3, 0, none⟩))⟩, ⟨1, none, 19, .val (.int .u8 k.toNat)⟩, ⟨2, none, 20, .val (.string (bstr bs))⟩, ⟨3, none, 21, .any (fun u v => ∃ A n c, v = .slice A n c ∧ bs.length = n ∧ n ≤ c ∧ Cells u A (bv bs)) (fun u u' v ⟨A, n, c, e, hn, hc, hr⟩ k => ⟨A, n, c, e, hn, hc, hr.ext k⟩)⟩, ⟨4, none, 22, .val (.agg (bv x).toArray)⟩, ⟨5, none, 23, .val (.agg (bv x).toArray)⟩, ⟨6, none, 24, .val (.bool false)⟩, ⟨7, none, 25, .val (.bool false)⟩, ⟨8, none, 26, .val (.agg (bv x).toArray)⟩, ⟨9, none, 27, .val (.agg (bv idNone).toArray)⟩, ⟨10, none, 28, .val (.bool false)⟩, ⟨11, none, 29, .val (.bool false)⟩]) (by kernel_rfl) (by kernel_rfl) FInv.start ?_ ?_
  · refine ⟨?o0, ?o1, ?o2, ?o3, ?o4, ?o5, ?o6, ?o7, ?o8, ?o9, ?o10, ?o11, trivial⟩
    case o0 =>
      intro f a u h hfi hp hq
      have q3 : a.tmps[3]?.getD undef = .pointer (some ⟨g3, 0, none⟩) := h.agree.att (by decide)
      exact h.yieldG rfl (wanted_none rfl) 18 rfl (by change 18 < 36; decide) rfl _ rfl (by go_simp)
    case o1 =>
      intro f a u h hfi hp hq
      have hyu : Ext w2 u := ((Ext.refl w2).drew).trans h.ext
      have hcell : u.cell? ⟨g3, 0, none⟩ = some (.int .u8 k.toNat) := HC0.out u hyu
      have q18 := h.att 0 rfl (pre_of hp 0 rfl)
      exact h.yieldG rfl (wanted_none rfl) 19 rfl (by change 19 < 36; decide) rfl _ rfl (by go_simp)
    case o2 =>
      intro f a u h hfi hp hq
      have q6 : a.tmps[6]?.getD undef = .string (bstr bs) := h.agree.att (by decide)
      exact h.yieldG rfl (wanted_none rfl) 20 rfl (by change 20 < 36; decide) rfl _ rfl (by go_simp)
    case o3 =>
      intro f a u h hfi hp hq
      obtain ⟨cv, wv, hcv, hle, hcc, hxc⟩ := conv_bytes2 bs u
      refine h.stepG rfl (wanted_none rfl) (some 21) rfl rfl (wp_yield (v := .slice (some ⟨u.heap.size, 0, none⟩) bs.length cv) (w' := wv) (run_of_sem (s := convert 9 87 (.string (bstr bs))) (exec_convert rfl (h.at_ 2 rfl (pre_of hp 2 rfl))) hcv) ?_)
      exact ⟨_, rfl, hxc, born_any (by change 21 < 36; decide) h rfl ⟨_, _, cv, rfl, rfl, hle, hcc⟩⟩
    case o4 =>
      intro f a u h hfi hp hq
      have hyu : Ext w2 u := ((Ext.refl w2).drew).trans h.ext
      obtain ⟨A1, n1, c1, e1, hn1, hc1, hb1⟩ := h.fact 3 rfl (pre_of hp 3 rfl) (fun d hd => by cases hd)
      exact h.callG rfl (wanted_none rfl) 22 rfl (by change 22 < 36; decide) rfl _ rfl 40 #[.tmp 19, .tmp 21] #[5, 87] _ rfl (by kernel_rfl) (by rw [arr2, e1, h.at_ 1 rfl (pre_of hp 1 rfl)]) (HOF.out A1 n1 c1 u hb1 hn1 hc1 (HTB.out.ext hyu))
    case o5 =>
      intro f a u h hfi hp hq
      have hyu : Ext w2 u := ((Ext.refl w2).drew).trans h.ext
      exact h.yieldG rfl (wanted_none rfl) 23 rfl (by change 23 < 36; decide) rfl _ rfl (run_of_sem rfl (by rw [(show a.eval (.tmp 3) = .pointer (some ⟨g3, 0, none⟩) from h.agree.eval (by decide))]; exact ld_id HX.out (HCI.out.ext hyu)))
    case o6 =>
      intro f a u h hfi hp hq
      exact h.yieldG rfl (wanted_none rfl) 24 rfl (by change 24 < 36; decide) rfl _ rfl (run_neq_id2 22 23 (bv x).toArray (bv x).toArray true rfl (h.at_ 4 rfl (pre_of hp 4 rfl)) (h.at_ 5 rfl (pre_of hp 5 rfl)) (HEQ.out u))
    case o7 =>
      intro f a u h hfi hp hq
      have q24 := h.att 6 rfl (pre_of hp 6 rfl)
      exact h.yieldG rfl (wanted_none rfl) 25 rfl (by change 25 < 36; decide) rfl _ rfl (by go_simp)
    case o8 =>
      intro f a u h hfi hp hq
      have hyu : Ext w2 u := ((Ext.refl w2).drew).trans h.ext
      exact h.yieldG rfl (wanted_yes (g := 7) (d' := 25) rfl rfl (h.at_ 7 rfl (pre_of hp 7 rfl))) 26 rfl (by change 26 < 36; decide) rfl _ rfl (run_of_sem rfl (by rw [(show a.eval (.tmp 3) = .pointer (some ⟨g3, 0, none⟩) from h.agree.eval (by decide))]; exact ld_id HX.out (HCI.out.ext hyu)))
    case o9 =>
      intro f a u h hfi hp hq
      exact h.yieldG rfl (wanted_yes (g := 7) (d' := 25) rfl rfl (h.at_ 7 rfl (pre_of hp 7 rfl))) 27 rfl (by change 27 < 36; decide) rfl _ rfl (run_of_sem (s := Instr.build 27 #[]) (exec_build rfl (by rw [arr0])) (build_idz u))
    case o10 =>
      intro f a u h hfi hp hq
      exact h.yieldG rfl (wanted_yes (g := 7) (d' := 25) rfl rfl (h.at_ 7 rfl (pre_of hp 7 rfl))) 28 rfl (by change 28 < 36; decide) rfl _ rfl (run_eq_id 26 27 (bv x).toArray (bv idNone).toArray false rfl (h.at_ 8 rfl (pre_of hp 8 rfl)) (h.at_ 9 rfl (pre_of hp 9 rfl)) (HNE.out u))
    case o11 =>
      intro f a u h hfi hp hq
      have q25 := h.att 7 rfl (pre_of hp 7 rfl)
      have q28 := h.att 10 rfl (pre_of hp 10 rfl)
      exact h.yieldG rfl (wanted_none rfl) 29 rfl (by change 29 < 36; decide) rfl _ rfl (by go_simp)
  · intro f a u h hall hfar
    have hyu : Ext w2 u := ((Ext.refl w2).drew).trans h.ext
    have e29 := h.at_ 11 rfl (hall 11 (by decide))
    have hag := h.agree.out
    simp only [List.foldl_cons, List.foldl_nil, Act.put, List.setIfInBounds_toArray, List.set_cons_zero, List.set_cons_succ, e29] at hag
    generalize a.eval (.tmp 18) = y18 at hag
    generalize a.eval (.tmp 19) = y19 at hag
    generalize a.eval (.tmp 20) = y20 at hag
    generalize a.eval (.tmp 21) = y21 at hag
    generalize a.eval (.tmp 22) = y22 at hag
    generalize a.eval (.tmp 23) = y23 at hag
    generalize a.eval (.tmp 24) = y24 at hag
    generalize a.eval (.tmp 25) = y25 at hag
    generalize a.eval (.tmp 26) = y26 at hag
    generalize a.eval (.tmp 27) = y27 at hag
    generalize a.eval (.tmp 28) = y28 at hag
    clear h hall hfar e29
    subst hag
    obtain ⟨cv, w6, hcv, hcc, hx6, _⟩ := conv_bytes bs u
    obtain ⟨N, hN⟩ : ∃ x, bs.length = x := ⟨_, rfl⟩
    rw [hN] at hcv
    have hxu6 := hyu.trans hx6
    have HGT := Lib.hid (HGT0.out (some ⟨u.heap.size, 0, none⟩) N cv w6 hcc hN)
    have HB46 := Lib.hid (HB42.out.ext hxu6)
    clear hcc hN
    go_upto_region 6 with (fail)
    go_wp2_with (first
      | (go_at_call 82; (with_reducible refine Calls.mono HGT.out ?_); rintro e w7 ⟨pa, ka, P, K, pc, kc, rfl, ht, hx7⟩; have HTR := Lib.hid ht; have HB47 := Lib.hid (HB46.out.ext hx7); clear ht)
      | (refine wpList_store_blk rfl 73 (.tmp 4) (.tmp 34) rfl rfl g4 #[.slice pa P pc, .slice ka K kc] rfl rfl 73 #[.slice none 0 0, .slice none 0 0] HB47.out rfl (by kernel_rfl) (by simp [Value.oneCell']) ?_; intro wz hbz hgz; have hxz := (hx12.trans (hxu6.trans hx7)).grown_ hgz (fun j e => by cases e; exact hg4)))
    refine bodyPost_ret (results_row_tmp (P := Tryd.prog) (fn := Tryd.f49) rfl _ _ g4 73 #[.slice pa P pc, .slice ka K kc] _ rfl hbz Tryd.underlying73 rfl (by kernel_rfl)) rfl ?_
    exact ⟨pa, ka, P, K, pc, kc, rfl, HTR.out.stored HB47.out (no_str2 _ _ (fun s e => by cases e) (fun s e => by cases e)) hgz, hxz⟩
end Go.Proofs.YtcnhbodemabbdaaDoor
/- tree.Find: in a tree of one object above its leaves. Printed by wip/mktreefind.py. -/
namespace Go.Proofs.YtcnhbodemabbdaaDoor
open Go.RowKit
set_option linter.unusedVariables false

set_option maxRecDepth 100000 in
set_option maxHeartbeats 4000000 in
theorem tclos_calls (p : Pr) (g5 : Nat) (key : ByteArray) (w : World) (h5 : Blk w g5 9 #[.string key]) :
    Calls Tryd.prog 51 #[.agg (prC p).toArray, .pointer (some ⟨g5, 0, none⟩)] w fun e w' => e = .returned (.bool (p.1.toList == key.toList)) ∧ Ext w w' := by
  obtain ⟨p0, p1⟩ := p
  have H5 := Lib.hid h5
  clear h5
  go_enter Tryd.func51, Tryd.ntmps51
  obtain ⟨w1, hw1⟩ : ∃ w1, w1 = w.alloc (.cells (prC (p0, p1)).toArray 65) := ⟨_, rfl⟩
  have hx1 : Ext w w1 := by rw [hw1]; exact (Ext.refl _).alloc _
  have hb1 : Blk w1 w.heap.size 65 (prC (p0, p1)).toArray := by rw [hw1]; exact Blk.new w _ _
  go_upto_region 1 with (fail)
  rw [← hw1]
  obtain ⟨g2, hg2⟩ : ∃ g, g = w.heap.size := ⟨_, rfl⟩
  rw [← hg2] at hb1 ⊢
  have c0 : w1.cell? ⟨g2, 0, none⟩ = some (.string p0) := (pair_cells hb1).1
  have c5 : w1.cell? ⟨g5, 0, none⟩ = some (.string key) := (H5.out.ext hx1).cell 0
  clear hw1 hb1 hg2
  go_wp2
  go_ret
  exact ⟨rfl, hx1⟩

set_option maxRecDepth 100000 in
set_option maxHeartbeats 4000000 in
theorem tindex_calls (p : Pr) (A : Option Addr) (c g5 : Nat) (key : ByteArray) (w : World) (hr : Row w A 2 [prC p]) (h5 : Blk w g5 9 #[.string key]) (hk : (p.1.toList == key.toList) = true) :
    Calls Tryd.prog 50 #[.slice A 1 c, .func (.func 51) #[] #[.pointer (some ⟨g5, 0, none⟩)]] w fun e w' => e = .returned (.int .i64 0) ∧ Ext w w' := by
  have HC := Lib.hid (fun (u : World) (hu : Ext w u) => tclos_calls p g5 key u (h5.ext hu))
  rw [hk] at HC
  have HR := Lib.hid hr
  clear hr h5 hk
  go_enter Tryd.func50, Tryd.ntmps50
  go_upto_region 2 with (fail)
  go_loopw [8] (fun i wr => i = .int .i64 0 ∧ Ext w wr) (fun i _ => 1)
  case atStart => exact ⟨rfl, Ext.refl _⟩
  case round =>
    obtain ⟨rfl, hx⟩ := hrel
    obtain ⟨_, x, rfl, hrow⟩ := (HR.out.ext hx) 0 (prC p) rfl
    rw [Nat.zero_mul, add_zero] at hrow
    have HRW := Lib.hid hrow
    clear hrow
    go_wp2_with (first
      | (refine wpList_load_row_ rfl 65 (.tmp 14) rfl x rfl (prC p) _ HRW.out Tryd.underlying65 rfl pr_info ?_)
      | (go_at_call 51; (with_reducible refine (HC.out wr hx).mono ?_); rintro e w' ⟨rfl, hx'⟩))
    go_ret
    exact ⟨rfl, hx.trans hx'⟩

set_option maxRecDepth 100000 in
set_option maxHeartbeats 16000000 in
theorem tfind_two (gp b : Nat) (L : List Ent1) (k : UInt8) (bs1 bs2 : List UInt8) (s0 s1 t1 v key : ByteArray) (y0 : List UInt8) (w : World) (h : PoolAt w gp b L) (hk : 0 < idN k)
    (hat1 : at1 (idPad (idName k bs1)) L = some (bstr bs1)) (hat2 : at1 (idPad (idName k bs2)) L = some (bstr bs2)) (hd1 : decT bs1 = some (upT [(s0, y0), (s1, idPad (idName k bs2))])) (hd2 : decT bs2 = some (leafT [(t1, v)])) (hy0 : y0.length = 33)
    (hle0 : (Op.bytesLess s0.toList key.toList || s0.toList == key.toList) = true) (hle1 : (Op.bytesLess s1.toList key.toList || s1.toList == key.toList) = true) (heq : (t1.toList == key.toList) = true) (hl1 : bs1.length ≤ 1048576) (hl2 : bs2.length ≤ 1048576) (hT : Tab w) :
    Calls Tryd.prog 33 #[.iface 39 (.pointer (some ⟨gp, 0, none⟩)), .agg (bv (idPad (idName k bs1))).toArray, .string key] w fun e w' => e = .returned (.tuple #[.string v, .bool true, .int .i64 0]) ∧ Ext w w' := by
  have HR1 := Lib.hid (fun (u : World) (hu : Ext w u) => tread_ok gp b L k bs1 _ u (h.ext hu) hk hat1 hd1 hl1 (hT.ext hu))
  have HR2 := Lib.hid (fun (u : World) (hu : Ext w u) => tread_ok gp b L k bs2 _ u (h.ext hu) hk hat2 hd2 hl2 (hT.ext hu))
  have hx1l : (idPad (idName k bs1)).length = 33 := idPad_len (idName_len _ _)
  have hx2l : (idPad (idName k bs2)).length = 33 := idPad_len (idName_len _ _)
  obtain ⟨x1, hx1e⟩ : ∃ x, x = idPad (idName k bs1) := ⟨_, rfl⟩
  obtain ⟨x2, hx2e⟩ : ∃ x, x = idPad (idName k bs2) := ⟨_, rfl⟩
  rw [← hx1e] at HR1 hx1l ⊢
  rw [← hx2e] at HR1 HR2 hx2l
  have HX1 := Lib.hid hx1l
  have HX2 := Lib.hid hx2l
  have HY0 := Lib.hid hy0
  have HEQ := Lib.hid heq
  clear h hk hat1 hat2 hd1 hd2 hl1 hl2 hT hx1l hx2l hx1e hx2e hy0 heq
  go_enter Tryd.func33, Tryd.ntmps33
  obtain ⟨w1, hw1⟩ : ∃ w1, w1 = (w.alloc (.cells (bv x1).toArray 27)).alloc (.cells #[.string key] 9) := ⟨_, rfl⟩
  have hxw1 : Ext w w1 := by rw [hw1]; exact ((Ext.refl _).alloc _).alloc _
  have hb4 : Blk w1 w.heap.size 27 (bv x1).toArray := by rw [hw1]; exact (Blk.new w _ _).ext ((Ext.refl _).alloc _)
  have hb5 : Blk w1 (w.heap.size + 1) 9 #[.string key] := by rw [hw1]; exact Blk.new_at (by simp) _ _
  go_upto_region 1 with (fail)
  rw [← hw1]
  go_upto_region 2 with (fail)
  obtain ⟨g4, hg4⟩ : ∃ g, g = w.heap.size := ⟨_, rfl⟩
  obtain ⟨g5, hg5⟩ : ∃ g, g = w.heap.size + 1 := ⟨_, rfl⟩
  have h45 : g5 ≠ g4 := by omega
  have hgw : w.heap.size ≤ g4 := by omega
  rw [← hg5] at hb5 ⊢
  rw [← hg4] at hb4 ⊢
  clear hw1 hg4 hg5
  go_loopw [14] (fun i wr => ∃ (m : Nat), m ≤ 1 ∧ i = .int .i64 m ∧ Hid (Blk wr g4 27 (bv (if m = 0 then x1 else x2)).toArray) ∧ Hid (Blk wr g5 9 #[.string key]) ∧ Ext w wr) (fun i _ => 2 - (intOf i).toNat)
  case atStart => exact ⟨0, by omega, rfl, Lib.hid hb4, Lib.hid hb5, hxw1⟩
  case round =>
    obtain ⟨m, hm, rfl, HB4, HB5, hx⟩ := hrel
    clear hb4 hb5 hxw1
    by_cases hm0 : m = 0
    · subst hm0
      rw [if_pos rfl] at HB4
      have hcx : ∀ (j : Nat) (v : Value), (bv x1)[j]? = some v → wr.cell? ((⟨g4, 0, none⟩ : Addr).add j) = some v := fun j v hv => by
        have h1 := HB4.out.cells
        rw [List.toList_toArray] at h1
        obtain ⟨y, hy, hc⟩ := h1 j v hv
        cases hy
        exact hc
      have HCX := Lib.hid hcx
      clear hcx
      go_upto_region 6 with (first
        | (refine wpList_load_row_ rfl 27 (.tmp 4) rfl ⟨g4, 0, none⟩ rfl (bv x1) _ HCX.out Tryd.underlying27 rfl (by rw [id_info, bv_length, HX1.out]) ?_)
        | (go_at_call 49; (with_reducible refine (HR1.out wr hx).mono ?_); rintro e w2 ⟨pa, ka, P, K, pc, kc, rfl, ht, hx2⟩; obtain rfl : 0 = P := ht.hp; obtain rfl : 2 = K := ht.hk; have HTR := Lib.hid ht; clear ht)
        | (refine wpList_store_blk rfl 73 (.tmp 9) (.tmp 20) rfl rfl w2.heap.size #[.slice pa 0 pc, .slice ka 2 kc] rfl rfl 73 _ (Blk.new w2 _ _) rfl (by kernel_rfl) (by simp [Value.oneCell']) ?_; intro w3 hb9 hg9; have hx3 : Ext w2 w3 := ((Ext.refl _).alloc _).grown_ hg9 (fun j e => by cases e; exact Nat.le_refl _)))
      have hxr3 := hx2.trans hx3
      have HB43 := Lib.hid (HB4.out.ext hxr3)
      have HB53 := Lib.hid (HB5.out.ext hxr3)
      obtain ⟨g9, hg9e⟩ : ∃ g, g = w2.heap.size := ⟨_, rfl⟩
      have h49 : g9 ≠ g4 := by have := HB4.out.lt; have := hx2.size; omega
      rw [← hg9e] at hb9 ⊢
      obtain ⟨xk, hxk, r0, r1, rr0⟩ := kd_row (HTR.out.ck.ext hx3) (i := 0) (by show 0 < 2; decide)
      obtain ⟨xk', hxk', _, _, rr1⟩ := kd_row (HTR.out.ck.ext hx3) (i := 1) (by show 1 < 2; decide)
      subst hxk
      cases hxk'
      rw [Nat.zero_mul, add_zero] at r1 rr0
      replace rr0 : ∀ j v, (kdC (s0, y0))[j]? = some v → w3.cell? (xk.add j) = some v := rr0
      replace rr1 : ∀ j v, (kdC (s1, x2))[j]? = some v → w3.cell? ((xk.add (1 * 34)).add j) = some v := rr1
      replace r1 : Cells w3 (some (xk.add 1)) (bv y0) := r1
      have r1' : ∀ j v, (bv y0)[j]? = some v → w3.cell? ((xk.add 1).add j) = some v := fun j v hv => by
        obtain ⟨y, hy, hc⟩ := r1 j v hv
        cases hy
        exact hc
      have HK0 := Lib.hid rr0
      have HK1 := Lib.hid rr1
      have HY1 := Lib.hid r1'
      obtain ⟨c90, c91⟩ := tree_cells hb9
      have HB9 := Lib.hid hb9
      have hxkb : xk.block ≠ g4 := fun e => by
        have h1 := rr0 0 _ rfl
        have h2 := cell_blk HB43.out (p := xk.add 0) (by rw [block_add]; exact e) h1
        have h3 := bv_cells x1
        have h4 : Value.string s0 ∈ bv x1 := by
          have h5 := List.mem_of_getElem? (l := (bv x1).toArray.toList) (by rw [Array.getElem?_toList]; exact h2)
          rwa [List.toList_toArray] at h5
        simp [bv] at h4
      clear r0 r1 rr0 rr1 r1' hb9 hg9 hg9e
      go_upto_region 12 with (first
        | (refine wpList_load_row_ rfl 27 (.tmp 44) rfl (xk.add 1) rfl (bv y0) _ HY1.out Tryd.underlying27 rfl (by rw [id_info, bv_length, HY0.out]) ?_)
        | (refine wpList_store_blk rfl 27 (.tmp 4) (.tmp 45) rfl rfl g4 (bv y0).toArray rfl rfl 27 (bv x1).toArray HB43.out (by rw [List.size_toArray, List.size_toArray, bv_length, bv_length, HY0.out, HX1.out]) (by rw [List.size_toArray, bv_length, HX1.out]; kernel_rfl) (fun v hv => bv_cells _ v (by simpa using hv)) ?_; intro w4 hb44 hg44))
      have hxw3 := hx.trans hxr3
      have hx4 : Ext w w4 := hxw3.grown_ hg44 (fun j e => by cases e; exact hgw)
      have HB54 := Lib.hid (HB53.out.grown hg44 (fun e => h45 (Option.some.inj e)))
      have c91' : w4.cell? ⟨g9, 1, none⟩ = some (.slice (some xk) 2 kc) := hg44.cell c91 (fun e => h49 (Option.some.inj e))
      replace HK0 : Hid (∀ j v, (kdC (s0, y0))[j]? = some v → w4.cell? (xk.add j) = some v) := Lib.hid (fun j v hv => hg44.cell (HK0.out j v hv) (by rw [block_add]; exact fun e => hxkb (Option.some.inj e)))
      replace HK1 : Hid (∀ j v, (kdC (s1, x2))[j]? = some v → w4.cell? ((xk.add (1 * 34)).add j) = some v) := Lib.hid (fun j v hv => hg44.cell (HK1.out j v hv) (by rw [block_add, block_add]; exact fun e => hxkb (Option.some.inj e)))
      have HB44 := Lib.hid hb44
      clear c90 c91 hb44 hg44 HTR HY1 HB9 HB43 HB53 HCX
      go_upto_region 13 with (fail)
      clear c91'
      go_loopw [49] (fun i wr' => ∃ (q : Nat), q ≤ 2 ∧ i = .int .i64 q ∧ Hid (Blk wr' g4 27 (bv (if q ≤ 1 then y0 else x2)).toArray) ∧ Hid (Blk wr' g5 9 #[.string key]) ∧ Hid (∀ j v, (kdC (s0, y0))[j]? = some v → wr'.cell? (xk.add j) = some v) ∧ Hid (∀ j v, (kdC (s1, x2))[j]? = some v → wr'.cell? ((xk.add (1 * 34)).add j) = some v) ∧ Ext w wr') (fun i _ => 2 - (intOf i).toNat)
      case atStart => exact ⟨0, by omega, rfl, HB44, HB54, HK0, HK1, hx4⟩
      case round =>
        clear HB44 HB54 HK0 HK1 hx4
        obtain ⟨q, hq, rfl, HB4, HB5, HK0, HK1, hx⟩ := hrel
        by_cases hq2 : q < 2
        · have hq2i : (q : Int) < 2 := by omega
          obtain ⟨kd, hkd⟩ : ∃ kd : Kd, kd = if q = 0 then (s0, y0) else (s1, x2) := ⟨_, rfl⟩
          have hkl : kd.2.length = 33 := by rw [hkd]; split; exact HY0.out; exact HX2.out
          have hlc : ∀ j v, (kdC kd)[j]? = some v → wr.cell? ((xk.add (q * 34)).add j) = some v := fun j v hv => by
            rw [hkd] at hv
            by_cases h0 : q = 0
            · subst h0
              rw [if_pos rfl] at hv
              rw [Nat.zero_mul, add_zero]
              exact HK0.out j v hv
            · obtain rfl : q = 1 := by omega
              rw [if_neg (by decide)] at hv
              exact HK1.out j v hv
          have hle : (Op.bytesLess kd.1.toList key.toList || kd.1.toList == key.toList) = true := by rw [hkd]; split <;> assumption
          have HKD : Hid (∀ u : World, ∀ g : Nat, Blk u g 27 (bv kd.2).toArray → Blk u g 27 (bv (if q + 1 ≤ 1 then y0 else x2)).toArray) := Lib.hid (fun u g hb => by
            rw [hkd] at hb
            by_cases h0 : q = 0
            · subst h0; exact hb
            · rw [if_neg h0] at hb
              rw [if_neg (by omega)]
              exact hb)
          have HKL := Lib.hid hkl
          have HLC := Lib.hid hlc
          rw [if_pos (show q ≤ 1 by omega)] at HB4
          have hq0i : (0 : Int) ≤ (q : Int) := by omega
          obtain ⟨k0, k1⟩ := kd
          clear hkd hkl hlc
          go_upto_region 15 with (first
            | (refine wpList_load_row_ rfl 77 (.tmp 51) rfl (xk.add (q * 34)) rfl (kdC (k0, k1)) _ HLC.out Tryd.underlying77 rfl (by rw [kd_info, kdC_len HKL.out]) ?_)
            | (refine wpList_store_blk rfl 77 (.tmp 13) (.tmp 52) rfl rfl wr.heap.size (kdC (k0, k1)).toArray rfl rfl _ _ (Blk.new wr _ _) (by rw [List.size_toArray, kdC_len HKL.out]; rfl) (by kernel_rfl) (kdC_one _) ?_; intro w3 hb13 hg13; have hx3 : Ext wr w3 := ((Ext.refl _).alloc _).grown_ hg13 (fun j e => by cases e; exact Nat.le_refl _)))
          have HB43 := Lib.hid (HB4.out.ext hx3)
          have HB53 := Lib.hid (HB5.out.ext hx3)
          have hxw3 := hx.trans hx3
          have HK03 : Hid (∀ j v, (kdC (s0, y0))[j]? = some v → w3.cell? (xk.add j) = some v) := Lib.hid (fun j v hv => hx3.cell (HK0.out j v hv))
          have HK13 : Hid (∀ j v, (kdC (s1, x2))[j]? = some v → w3.cell? ((xk.add (1 * 34)).add j) = some v) := Lib.hid (fun j v hv => hx3.cell (HK1.out j v hv))
          obtain ⟨g13, hg13e⟩ : ∃ g, g = wr.heap.size := ⟨_, rfl⟩
          rw [← hg13e] at hb13 ⊢
          obtain ⟨ck0, ck1⟩ := kid_cells hb13
          have ck0' : w3.cell? ⟨g13, 0, none⟩ = some (.string k0) := ck0
          have c5 : w3.cell? ⟨g5, 0, none⟩ = some (.string key) := HB53.out.cell 0
          have ck1' : ∀ j v, (bv k1)[j]? = some v → w3.cell? ((⟨g13, 1, none⟩ : Addr).add j) = some v := fun j v hv => by
            obtain ⟨y, hy, hc⟩ := ck1 j v hv
            cases hy
            exact hc
          have HK1' := Lib.hid ck1'
          clear hb13 hg13 hg13e ck0 ck1 ck1' HK0 HK1 HB4 HB5 HLC
          go_wp2_with (first
            | (refine wpList_load_row_ rfl 27 (.tmp 57) rfl ⟨g13, 1, none⟩ rfl (bv k1) _ HK1'.out Tryd.underlying27 rfl (by rw [id_info, bv_length, show k1.length = 33 from HKL.out]) ?_)
            | (refine wpList_store_blk rfl 27 (.tmp 4) (.tmp 58) rfl rfl g4 (bv k1).toArray rfl rfl 27 (bv y0).toArray HB43.out (by rw [List.size_toArray, List.size_toArray, bv_length, bv_length, HY0.out, show k1.length = 33 from HKL.out]) (by rw [List.size_toArray, bv_length, HY0.out]; kernel_rfl) (fun v hv => bv_cells _ v (by simpa using hv)) ?_; intro w4 hb44 hg44))
          go_roundw
          case rel => exact ⟨q + 1, by omega, by go_num, Lib.hid (HKD.out w4 g4 hb44), Lib.hid (HB53.out.grown hg44 (fun e => h45 (Option.some.inj e))), Lib.hid (fun j v hv => hg44.cell (HK03.out j v hv) (by rw [block_add]; exact fun e => hxkb (Option.some.inj e))), Lib.hid (fun j v hv => hg44.cell (HK13.out j v hv) (by rw [block_add, block_add]; exact fun e => hxkb (Option.some.inj e))), hxw3.grown_ hg44 (fun j e => by cases e; exact hgw)⟩
          case measure => simp [intOf] <;> omega
        · obtain rfl : q = 2 := by omega
          rw [if_neg (by decide)] at HB4
          go_wp2
          go_roundw
          case rel => exact ⟨1, by omega, by go_num, Lib.hid (by rw [if_neg (by decide)]; exact HB4.out), HB5, hx⟩
          case measure => simp [intOf] <;> omega
    · obtain rfl : m = 1 := by omega
      rw [if_neg (by decide)] at HB4
      have hcx : ∀ (j : Nat) (v : Value), (bv x2)[j]? = some v → wr.cell? ((⟨g4, 0, none⟩ : Addr).add j) = some v := fun j v hv => by
        have h1 := HB4.out.cells
        rw [List.toList_toArray] at h1
        obtain ⟨y, hy, hc⟩ := h1 j v hv
        cases hy
        exact hc
      have HCX := Lib.hid hcx
      clear hcx
      go_upto_region 6 with (first
        | (refine wpList_load_row_ rfl 27 (.tmp 4) rfl ⟨g4, 0, none⟩ rfl (bv x2) _ HCX.out Tryd.underlying27 rfl (by rw [id_info, bv_length, HX2.out]) ?_)
        | (go_at_call 49; (with_reducible refine (HR2.out wr hx).mono ?_); rintro e w2 ⟨pa, ka, P, K, pc, kc, rfl, ht, hx2⟩; obtain rfl : 1 = P := ht.hp; obtain rfl : 0 = K := ht.hk; have HTR := Lib.hid ht; clear ht)
        | (refine wpList_store_blk rfl 73 (.tmp 9) (.tmp 20) rfl rfl w2.heap.size #[.slice pa 1 pc, .slice ka 0 kc] rfl rfl 73 _ (Blk.new w2 _ _) rfl (by kernel_rfl) (by simp [Value.oneCell']) ?_; intro w3 hb9 hg9; have hx3 : Ext w2 w3 := ((Ext.refl _).alloc _).grown_ hg9 (fun j e => by cases e; exact Nat.le_refl _)))
      have hxr3 := hx2.trans hx3
      have HB53 := Lib.hid (HB5.out.ext hxr3)
      have HROW : Hid (Row w3 pa 2 [prC (t1, v)]) := Lib.hid (HTR.out.cp.ext hx3)
      obtain ⟨g9, hg9e⟩ : ∃ g, g = w2.heap.size := ⟨_, rfl⟩
      rw [← hg9e] at hb9 ⊢
      obtain ⟨c90, c91⟩ := tree_cells hb9
      have HB9 := Lib.hid hb9
      clear hb9 hg9 hg9e HTR
      go_wp2_with (go_at_call 50; (with_reducible refine (tindex_calls (t1, v) pa pc g5 key w3 HROW.out HB53.out HEQ.out).mono ?_); rintro e w4 ⟨rfl, hx4⟩; obtain ⟨c94, _⟩ := tree_cells (HB9.out.ext hx4); obtain ⟨_, xq, hxq, hrq⟩ := (HROW.out.ext hx4) 0 (prC (t1, v)) rfl; subst hxq; rw [Nat.zero_mul, add_zero] at hrq; have cq1 : w4.cell? { block := xq.block, off := xq.off + 1 } = some (.string v) := hrq 1 _ rfl; clear c90 c91 hrq)
      go_ret3
      exact ⟨rfl, (hx.trans hxr3).trans hx4⟩
end Go.Proofs.YtcnhbodemabbdaaDoor
