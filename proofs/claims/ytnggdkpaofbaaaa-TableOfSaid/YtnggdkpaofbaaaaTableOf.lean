/- TableOf: the walk. Printed by wip/mktabof2.py. -/
import Derived.Test.YtnggdkpaofbaaaaTabRBytes
import Derived.Test.YtnggdkpaofbaaaaTabGet2
import Derived.Test.YtnggdkpaofbaaaaTabLaw
import Derived.Test.YtnggdkpaofbaaaaOpenTab
namespace Go.Proofs.Ytnggdkpaofbaaaa
open Go.RowKit Go.Shelf
set_option linter.unusedVariables false

theorem deq_self2 (x : W3) : decide (x = x) = true := by simp
theorem run_eq_w {o : Oper} {a : Act} {u : World} (s1 s2 : Nat) (c0 c1 : Array Value) (b : Bool) (ho : o.op = .binOp .eql 46 (.tmp s1) (.tmp s2) 46) (h1 : a.eval (.tmp s1) = .agg c0) (h2 : a.eval (.tmp s2) = .agg c1)
    (hz : (Op.equalIn 10000 46 (.agg c0) (.agg c1)).run Try.prog u = .ok b u) : (execOp a.eval o).run Try.prog u = .ok (.value (.bool b)) u := by
  have hg : Try.prog.eqGuardType Try.prog.depth 46 = false := by kernel_rfl
  unfold execOp
  simp [ho, h1, h2, eqGuard, hg, binOp, Op.equal, Op.maxDepth, hz]
theorem allNil0 (u : World) : Calls Try.prog 20 #[.pointer none] u fun e w' => e = .returned (.slice none 0 0) ∧ Ext u w' := by
  go_enter Try.func20, Try.ntmps20
  go_wp2
  go_ret
  exact ⟨rfl, Ext.refl _⟩
/-- The last write of a key. -/
def lastL (k : ByteArray) (l : List W3) : Option W3 := l.foldl (fun r x => if x.1 = k then some x else r) none
theorem lastL_snoc (k : ByteArray) (l : List W3) (x : W3) : lastL k (l ++ [x]) = if x.1 = k then some x else lastL k l := by simp [lastL]
theorem lastL_look (k : ByteArray) (l : List W3) : SortedW l → lastL k l = lookW k l := by
  induction l using rev_ind with
  | h0 => intro _; rfl
  | h1 l x ih =>
    intro hs
    have hs2 := List.pairwise_append.1 hs
    rw [lastL_snoc, ih hs2.1]
    unfold lookW
    rw [List.find?_append]
    by_cases hx : x.1 = k
    · rw [if_pos hx]
      have hno : List.find? (fun w => decide (w.1 = k)) l = none := by
        rw [List.find?_eq_none]
        intro y hy
        have h1 := hs2.2.2 y hy x (by simp)
        have h2 := klt_ne h1
        rw [hx] at h2
        simpa using h2
      rw [hno]
      simp [hx]
    · rw [if_neg hx]
      cases List.find? (fun w => decide (w.1 = k)) l <;> simp [hx]
set_option maxRecDepth 100000 in
set_option maxHeartbeats 16000000 in
theorem tableOf_calls (ls : List W3) (A : Option Addr) (n c : Nat) (key : ByteArray) (w : World) (hr : Row w A 3 (ls.map wC)) (hn : ls.length = n) (hl : n ≤ 140737488351232) (hi : ∀ p ∈ ls, okW p) (hk9 : key.size ≤ 140737488351232) :
    Calls Try.prog 5 #[.slice A n c, .string key] w fun e w' => e = .returned (.bool true) ∧ Ext w w' := by
  have hm0 : (0 : Int) ≤ 8192 ∧ (8192 : Int) ≤ 1000000 := by decide
  have HG := Lib.hid (fun (u : World) (hu : Ext w u) => rgreat2_calls ls A n c 8192 u (hr.ext hu) hn hl hm0 hi)
  obtain ⟨T, hT⟩ : ∃ T, T = tabOf ls := ⟨_, rfl⟩
  have HOF := Lib.hid (fun (u : World) (hu : Ext w u) (hp : n ≤ 1000000) => of_tab ls T A n c u (hr.ext hu) hn hp hT)
  have HROF := Lib.hid (fun (u : World) (hu : Ext w u) (hp : n ≤ 100000) => rof_calls ls A n c u (hr.ext hu) hn hp)
  rw [← hT] at HROF
  have HPT0 : Hid (plN T ≤ plN ls) := Lib.hid (by rw [hT]; exact plN_tab ls)
  have HNP : Hid (n ≤ plN ls) := Lib.hid (by rw [← hn]; exact plN_len ls)
  have HTS : Hid (SortedW T) := Lib.hid (by rw [hT]; exact tabOf_sorted ls)
  clear hr hn hi hm0 hT
  go_enter Try.func5, Try.ntmps5
  by_cases h10 : (1024 : Int) < (key.size : Int)
  · go_wp2_with (first
      | (go_at_call 7; (with_reducible refine (tab_alive w).mono ?_); rintro e w1 ⟨rfl, hx1⟩)
      | (go_at_call 8; (with_reducible refine (HG.out w1 hx1).mono ?_); rintro e w2 ⟨⟨b1, rfl, hb1⟩, hx2'⟩; have hx2 := hx1.trans hx2'; clear hb1; cases b1))
    all_goals
      go_ret
      exact ⟨rfl, hx2⟩
  go_upto_region 5 with (first
    | (go_at_call 7; (with_reducible refine (tab_alive w).mono ?_); rintro e w1 ⟨rfl, hx1⟩)
    | (go_at_call 8; (with_reducible refine (HG.out w1 hx1).mono ?_); rintro e w2 ⟨⟨b1, rfl, hb1⟩, hx2'⟩; have hx2 := hx1.trans hx2'; cases b1))
  rotate_left
  · go_ret
    exact ⟨rfl, hx2⟩
  have hp4 : plN ls ≤ 8192 := by have := hb1 (by trivial); omega
  have hn4 : n ≤ 100000 := by have := HNP.out; omega
  have hT4 : plN T ≤ 8192 := by have := HPT0.out; omega
  have hTn : T.length ≤ 8192 := Nat.le_trans (plN_len T) hT4
  have HPT := Lib.hid hT4
  obtain ⟨nT, hnT⟩ : ∃ x, T.length = x := ⟨_, rfl⟩
  rw [hnT] at hTn
  have HNT := Lib.hid hnT
  obtain ⟨r, hrr⟩ : ∃ r, r = lookW key T := ⟨_, rfl⟩
  have HRR := Lib.hid hrr
  clear hb1 HG HPT0 HNP hp4 hT4 hnT hrr
  go_upto_region 6 with (first
    | (go_at_call 11; (with_reducible refine Calls.mono (HOF.out w2 hx2 (by omega)) ?_); rintro e w4 ⟨p, rfl, ht4, hx4'⟩; have hx4 := hx2.trans hx4'; have HTA := Lib.hid ht4; clear ht4)
    | (go_at_call 22; (with_reducible refine Calls.mono (HROF.out w4 hx4 hn4) ?_); rintro e w5 ⟨v5, rfl, ho5, hx5'⟩; obtain ⟨A2, c2, rfl, _, _, hc2⟩ := ho5.form; rw [HNT.out]))
  have hx5 := hx4.trans hx5'
  have HTA5 := Lib.hid (HTA.out.ext hx5')
  have HR5 := Lib.hid (row_of_cells hc2)
  have HGET := Lib.hid (get_is p T key w5 HTA5.out (by rw [HNT.out]; omega) HTS.out r HRR.out.symm (r.getD zW) rfl r.isSome rfl)
  obtain ⟨x, hxr⟩ : ∃ x, x = r.getD zW := ⟨_, rfl⟩
  rw [← hxr] at HGET
  have HXR := Lib.hid hxr
  clear hxr hc2 ho5 HOF HROF HTA hx4 hx5' hx2
  go_upto_region 7 with (first
    | (go_at_call 23; (with_reducible refine Calls.mono HGET.out ?_); rintro e w6 ⟨rfl, hx6⟩; have hl6 := (Ext.refl w6).alloc (.cells #[.string { data := #[] }, .string { data := #[] }, .bool false] 46))
    | (refine wpList_store_blk rfl 46 (.tmp 7) (.tmp 33) rfl rfl w6.heap.size (wC x).toArray rfl rfl _ _ (Blk.new w6 _ _) rfl (by kernel_rfl) (wC_one x) ?_; intro w8 hb8 hg8; have hx8 : Ext w6 w8 := hl6.grown_ hg8 (fun j e => by cases e; exact Nat.le_refl _)))
  obtain ⟨q7, hq7⟩ : ∃ q, q = w6.heap.size := ⟨_, rfl⟩
  rw [← hq7] at hb8 ⊢
  have hx58 := hx6.trans hx8
  have hx08 := hx5.trans hx58
  have HB78 := Lib.hid hb8
  have HTA8 := Lib.hid (HTA5.out.ext hx58)
  have HR8 := Lib.hid (HR5.out.ext hx58)
  clear hb8 hg8 hl6 hq7 HGET HTA5 HR5 hx58 hx8 hx6 hx5
  go_upto_region 10 with (fail)
  obtain ⟨q9, hq9⟩ : ∃ q, q = w8.heap.size := ⟨_, rfl⟩
  have HB9 : Hid (Blk (w8.alloc (.cells #[.string { data := #[] }, .string { data := #[] }, .bool false] 46)) q9 46 (wC zW).toArray) := Lib.hid (by rw [hq9]; exact Blk.new w8 _ _)
  have hq98 : w8.heap.size ≤ q9 := by rw [hq9]; exact Nat.le_refl _
  rw [← hq9]
  have HQ9 := Lib.hid hq9
  clear hq9
  go_loopw [37, 10] (fun i bb wr => ∃ (k : Nat) (ro : Option W3), k ≤ nT ∧ i = .int .i64 k ∧ bb = .bool ro.isSome ∧ Hid (ro = lastL key (T.take k)) ∧ Hid (Blk wr q9 46 (wC (ro.getD zW)).toArray) ∧ Ext w8 wr) (fun i _ _ => nT - (intOf i).toNat)
  case atStart => exact ⟨0, none, Nat.zero_le _, rfl, rfl, Lib.hid rfl, HB9, (Ext.refl _).alloc _⟩
  case round =>
    clear HB9
    obtain ⟨k, ro, hk, rfl, rfl, HRO, HB9, hx⟩ := hrel
    by_cases hlt : k < nT
    · have hkl : k < T.length := by rw [HNT.out]; exact hlt
      obtain ⟨ad, rfl, hlc0⟩ := HR8.out.get (i := k) (by simpa using hkl)
      rw [List.getElem_map] at hlc0
      obtain ⟨y, hye⟩ : ∃ y, T[k]? = some y := ⟨_, List.getElem?_eq_getElem hkl⟩
      rw [(List.getElem?_eq_some_iff.1 hye).2] at hlc0
      have hlc : ∀ (a : Nat) (v : Value), (wC y)[a]? = some v → wr.cell? ((ad.add (k * 3)).add a) = some v := fun a v hv => hx.cell (hlc0 a v hv)
      have htk : lastL key (T.take (k + 1)) = if y.1 = key then some y else ro := by rw [List.take_add_one, hye, show (some y).toList = [y] from rfl, lastL_snoc, HRO.out]
      have HTK := Lib.hid htk
      clear hlc0 htk hye hkl
      have hp0 : (0 : Int) ≤ (k : Int) := by omega
      have hp1 : (k : Int) < (nT : Int) := by omega
      go_upto_region 12 with (first
        | (refine wpList_load_row_ rfl 46 (.tmp 39) rfl (ad.add (k * 3)) rfl (wC y) _ hlc Try.underlying46 rfl (by rw [w_info]; rfl) ?_)
        | (refine wpList_store_blk rfl 46 (.tmp 12) (.tmp 40) rfl rfl wr.heap.size (wC y).toArray rfl rfl _ _ (Blk.new wr _ _) rfl (by kernel_rfl) (wC_one y) ?_; intro w3 hb3 hg3; have hx3 : Ext wr w3 := ((Ext.refl _).alloc _).grown_ hg3 (by simp)))
      obtain ⟨q, hq⟩ : ∃ q, q = wr.heap.size := ⟨_, rfl⟩
      rw [← hq] at hb3 ⊢
      have HB3 := Lib.hid hb3
      have HB93 := Lib.hid (HB9.out.ext hx3)
      have hx83 := hx.trans hx3
      obtain ⟨y0, y1, y2⟩ := y
      have hc0 : w3.cell? ⟨q, 0, none⟩ = some (.string y0) := by rw [HB3.out.cell]; rfl
      clear hlc hg3 hb3 hq hx hx3 HB9
      by_cases hyk : y0 = key
      · subst hyk
        have hy1 : (if (y0, y1, y2).1 = y0 then some (y0, y1, y2) else ro) = some (y0, y1, y2) := if_pos rfl
        have htk' := HTK.out
        rw [hy1] at htk'
        have HTK' := Lib.hid htk'.symm
        have hbq : (y0.toList == y0.toList) = true := by simp
        clear htk' hy1 HTK
        go_wp2_with (first
          | (refine wpList_load_row_ rfl 46 (.tmp 12) rfl ⟨q, 0, none⟩ rfl (wC (y0, y1, y2)) _ (blk_cells HB3.out) Try.underlying46 rfl (by rw [w_info]; rfl) ?_)
          | (refine wpList_store_blk rfl 46 (.tmp 9) (.tmp 45) rfl rfl q9 (wC (y0, y1, y2)).toArray rfl rfl _ _ HB93.out rfl (by kernel_rfl) (wC_one (y0, y1, y2)) ?_; intro w4 hb4 hg4; have hx4 : Ext w8 w4 := hx83.grown_ hg4 (fun j e => by cases e; exact hq98); have HB4 := Lib.hid hb4; clear hb4 hg4))
        go_roundw
        case rel => exact ⟨k + 1, some (y0, y1, y2), by omega, by go_num, rfl, HTK', HB4, hx4⟩
        case measure => simp [intOf]; omega
      · have hy1 : (if (y0, y1, y2).1 = key then some (y0, y1, y2) else ro) = ro := if_neg hyk
        have htk' := HTK.out
        rw [hy1] at htk'
        have HTK' := Lib.hid htk'.symm
        have hbq : (y0.toList == key.toList) = false := by rw [beq_eq_false_iff_ne]; exact fun e => hyk (kl_inj e)
        clear htk' hy1 HTK hyk
        go_wp2
        go_roundw
        case rel => exact ⟨k + 1, ro, by omega, by go_num, rfl, HTK', HB93, hx83⟩
        case measure => simp [intOf]; omega
    · obtain rfl : nT = k := by omega
      have hro := HRO.out
      rw [← HNT.out, List.take_length, lastL_look key T HTS.out, ← HRR.out] at hro
      subst hro
      rw [← HXR.out] at HB9
      have HALL8 := Lib.hid (fun (u : World) (hu : Ext w8 u) => all_tab p T u (HTA8.out.ext hu) nT HNT.out (by omega))
      clear HRO HRR HTS HXR
      go_upto_region 18 with (first
        | (go_at_call 23; (with_reducible refine Calls.mono (getNil_calls key wr) ?_); rintro e w10 ⟨rfl, hx10⟩; have hl10 := (Ext.refl w10).alloc (.cells #[.string { data := #[] }, .string { data := #[] }, .bool false] 46))
        | (refine wpList_store_blk rfl 46 (.tmp 14) (.tmp 51) rfl rfl w10.heap.size (wC zW).toArray rfl rfl _ _ (Blk.new w10 _ _) rfl (by kernel_rfl) (wC_one zW) ?_; intro w14 hb14 hg14; have hx14' : Ext w10 w14 := hl10.grown_ hg14 (fun j e => by cases e; exact Nat.le_refl _)))
      have hxr14 := hx10.trans hx14'
      have hx814 := hx.trans hxr14
      have hx14 := hx08.trans hx814
      have HB7 := Lib.hid (HB78.out.ext hx814)
      have HB9' := Lib.hid (HB9.out.ext hxr14)
      have HRW := Lib.hid (HR8.out.ext hx814)
      have HALL := Lib.hid (fun (u : World) (hu : Ext w14 u) => HALL8.out u (hx814.trans hu))
      have HBY := Lib.hid (fun (u : World) (hu : Ext w14 u) => bytes_calls (.pointer (some ⟨p, 0, none⟩)) T nT HNT.out u (fun u' hu' => HALL.out u' (hu.trans hu')) (Nat.le_trans HPT.out (by decide)))
      clear HB9 HB78 HR8 HTA8 HALL8 hb14 hg14 hl10 hxr14 hx814 hx10 hx14' hx08 hx
      have HEQ0 : ∀ u, (Op.equalIn 10000 46 (.agg (wC x).toArray) (.agg (wC x).toArray)).run Try.prog u = .ok true u := fun u => by rw [write_equal, deq_self2]
      have HCZ0 : (wC x).toArray.size = 3 := rfl
      obtain ⟨cs, hcs⟩ : ∃ cs, cs = (wC x).toArray := ⟨_, rfl⟩
      rw [← hcs] at HEQ0 HCZ0 HB7
      have HB9 := HB9'
      rw [← hcs] at HB9
      have HEQ := Lib.hid HEQ0
      have HCZ := Lib.hid HCZ0
      clear HB9' HEQ0 HCZ0 hcs
      refine wp_region_ops (FInv [53, 54, 55, 56, 57, 58, 59, 60, 61, 62, 63, 64, 65, 66, 67, 68, 69, 70, 71, 72, 73, 74, 75, 76, 77, 78, 79, 80, 81, 82, 83, 84, 85, 86, 87, 88, 89, 90, 91, 4] _ w14.drew [⟨0, none, 53, .val (.pointer (some ⟨p, 0, none⟩))⟩, ⟨1, none, 54, .any (fun u v => ∃ A c, v = .slice A nT c ∧ Row u A 3 (T.map wC)) (fun u u' v ⟨A, c, e, hr⟩ k => ⟨A, c, e, hr.ext k⟩)⟩, ⟨2, none, 55, .val (.slice A2 nT c2)⟩, ⟨3, none, 56, .val (.bool true)⟩, ⟨4, none, 57, .val (.bool true)⟩, ⟨5, none, 58, .val (.bool ro.isSome)⟩, ⟨6, none, 59, .val (.bool ro.isSome)⟩, ⟨7, none, 60, .val (.bool true)⟩, ⟨8, none, 61, .val (.bool true)⟩, ⟨9, none, 62, .val (.bool true)⟩, ⟨10, none, 63, .val (.agg cs)⟩, ⟨11, none, 64, .val (.agg cs)⟩, ⟨12, none, 65, .val (.bool true)⟩, ⟨13, none, 66, .val (.bool true)⟩, ⟨14, none, 67, .val (.bool true)⟩, ⟨15, none, 68, .val (.pointer (some ⟨p, 0, none⟩))⟩, ⟨16, none, 69, .own (tbB T)⟩, ⟨17, none, 70, .val (.string (bstr (tbB T)))⟩, ⟨18, none, 71, .val (.slice A2 nT c2)⟩, ⟨19, none, 72, .val (.string (bstr (tbB T)))⟩, ⟨20, none, 73, .val (.bool true)⟩, ⟨21, none, 74, .val (.bool true)⟩, ⟨22, none, 75, .val (.bool true)⟩, ⟨23, none, 76, .val (.bool false)⟩, ⟨24, none, 77, .val (.bool true)⟩, ⟨25, none, 78, .val (.bool true)⟩, ⟨26, none, 79, .val (.bool true)⟩, ⟨27, none, 80, .val (.pointer none)⟩, ⟨28, none, 81, .val (.slice none 0 0)⟩, ⟨29, none, 82, .val (.int .i64 0)⟩, ⟨30, none, 83, .val (.bool true)⟩, ⟨31, none, 84, .val (.bool true)⟩, ⟨32, none, 85, .val (.bool true)⟩, ⟨33, none, 86, .val (.pointer none)⟩, ⟨34, none, 87, .own (tbB [])⟩, ⟨35, none, 88, .val (.string (bstr (tbB [])))⟩, ⟨36, none, 89, .val (.string (bstr (tbB [])))⟩, ⟨37, none, 90, .val (.bool true)⟩, ⟨38, none, 91, .val (.bool true)⟩, ⟨39, none, 4, .val (.bool true)⟩]) (by kernel_rfl) (by kernel_rfl) FInv.start ?_ ?_
      · refine ⟨?o0, ?o1, ?o2, ?o3, ?o4, ?o5, ?o6, ?o7, ?o8, ?o9, ?o10, ?o11, ?o12, ?o13, ?o14, ?o15, ?o16, ?o17, ?o18, ?o19, ?o20, ?o21, ?o22, ?o23, ?o24, ?o25, ?o26, ?o27, ?o28, ?o29, ?o30, ?o31, ?o32, ?o33, ?o34, ?o35, ?o36, ?o37, ?o38, ?o39, trivial⟩
        case o0 =>
          intro f a u h hfi hp hq
          have q5 : a.tmps[5]?.getD undef = .pointer (some ⟨p, 0, none⟩) := h.agree.att (by decide)
          exact h.yieldG rfl (wanted_none rfl) 53 rfl (by change 53 < 92; decide) rfl _ rfl (by go_simp)
        case o1 =>
          intro f a u h hfi hp hq
          have hyu : Ext w14 u := ((Ext.refl w14).drew).trans h.ext
          refine h.stepG rfl (wanted_none rfl) (some 54) rfl rfl (wp_call 20 #[.tmp 53] #[29] #[.pointer (some ⟨p, 0, none⟩)] rfl (by kernel_rfl) (by rw [arr1, h.at_ 0 rfl (pre_of hp 0 rfl)]) ((HALL.out u hyu).mono ?_))
          rintro e w' ⟨A1, c1, rfl, r1, k1⟩
          exact ⟨_, rfl, _, rfl, k1, born_any (by change 54 < 92; decide) h rfl ⟨A1, c1, rfl, r1⟩⟩
        case o2 =>
          intro f a u h hfi hp hq
          have q6 : a.tmps[6]?.getD undef = .slice A2 nT c2 := h.agree.att (by decide)
          exact h.yieldG rfl (wanted_none rfl) 55 rfl (by change 55 < 92; decide) rfl _ rfl (by go_simp)
        case o3 =>
          intro f a u h hfi hp hq
          have hyu : Ext w14 u := ((Ext.refl w14).drew).trans h.ext
          obtain ⟨A1, c1, e1, r1⟩ := h.fact 1 rfl (pre_of hp 1 rfl) (fun d hd => by cases hd)
          exact h.callG rfl (wanted_none rfl) 56 rfl (by change 56 < 92; decide) rfl _ rfl 19 #[.tmp 54, .tmp 55] #[22, 22] _ rfl (by kernel_rfl) (by rw [arr2, e1, h.at_ 2 rfl (pre_of hp 2 rfl)]) (rsame_self T A1 A2 nT c1 c2 u r1 (HRW.out.ext hyu) HNT.out (by omega))
        case o4 =>
          intro f a u h hfi hp hq
          have q56 := h.att 3 rfl (pre_of hp 3 rfl)
          exact h.yieldG rfl (wanted_none rfl) 57 rfl (by change 57 < 92; decide) rfl _ rfl (by go_simp)
        case o5 =>
          intro f a u h hfi hp hq
          have q8 : a.tmps[8]?.getD undef = .bool ro.isSome := h.agree.att (by decide)
          exact h.yieldG rfl (wanted_yes (g := 4) (d' := 57) rfl rfl (h.at_ 4 rfl (pre_of hp 4 rfl))) 58 rfl (by change 58 < 92; decide) rfl _ rfl (by go_simp)
        case o6 =>
          intro f a u h hfi hp hq
          have q10 : a.tmps[10]?.getD undef = .bool ro.isSome := h.agree.att (by decide)
          exact h.yieldG rfl (wanted_yes (g := 4) (d' := 57) rfl rfl (h.at_ 4 rfl (pre_of hp 4 rfl))) 59 rfl (by change 59 < 92; decide) rfl _ rfl (by go_simp)
        case o7 =>
          intro f a u h hfi hp hq
          have q58 := h.att 5 rfl (pre_of hp 5 rfl)
          have q59 := h.att 6 rfl (pre_of hp 6 rfl)
          exact h.yieldG rfl (wanted_yes (g := 4) (d' := 57) rfl rfl (h.at_ 4 rfl (pre_of hp 4 rfl))) 60 rfl (by change 60 < 92; decide) rfl _ rfl (by go_simp)
        case o8 =>
          intro f a u h hfi hp hq
          have q57 := h.att 4 rfl (pre_of hp 4 rfl)
          have q60 := h.att 7 rfl (pre_of hp 7 rfl)
          exact h.yieldG rfl (wanted_none rfl) 61 rfl (by change 61 < 92; decide) rfl _ rfl (by go_simp)
        case o9 =>
          intro f a u h hfi hp hq
          have q61 := h.att 8 rfl (pre_of hp 8 rfl)
          exact h.yieldG rfl (wanted_none rfl) 62 rfl (by change 62 < 92; decide) rfl _ rfl (by go_simp)
        case o10 =>
          intro f a u h hfi hp hq
          have hyu : Ext w14 u := ((Ext.refl w14).drew).trans h.ext
          exact h.yieldG rfl (wanted_yes (g := 9) (d' := 62) rfl rfl (h.at_ 9 rfl (pre_of hp 9 rfl))) 63 rfl (by change 63 < 92; decide) rfl _ rfl (run_of_sem rfl (by rw [(show a.eval (.tmp 7) = .pointer (some ⟨q7, 0, none⟩) from h.agree.eval (by decide))]; exact run_load_blk (HB7.out.ext hyu) Try.underlying46 rfl (by rw [HCZ.out]; kernel_rfl)))
        case o11 =>
          intro f a u h hfi hp hq
          have hyu : Ext w14 u := ((Ext.refl w14).drew).trans h.ext
          exact h.yieldG rfl (wanted_yes (g := 9) (d' := 62) rfl rfl (h.at_ 9 rfl (pre_of hp 9 rfl))) 64 rfl (by change 64 < 92; decide) rfl _ rfl (run_of_sem rfl (by rw [(show a.eval (.tmp 9) = .pointer (some ⟨q9, 0, none⟩) from h.agree.eval (by decide))]; exact run_load_blk (HB9.out.ext hyu) Try.underlying46 rfl (by rw [HCZ.out]; kernel_rfl)))
        case o12 =>
          intro f a u h hfi hp hq
          exact h.yieldG rfl (wanted_yes (g := 9) (d' := 62) rfl rfl (h.at_ 9 rfl (pre_of hp 9 rfl))) 65 rfl (by change 65 < 92; decide) rfl _ rfl (run_eq_w 63 64 cs cs true rfl (h.at_ 10 rfl (pre_of hp 10 rfl)) (h.at_ 11 rfl (pre_of hp 11 rfl)) (HEQ.out u))
        case o13 =>
          intro f a u h hfi hp hq
          have q62 := h.att 9 rfl (pre_of hp 9 rfl)
          have q65 := h.att 12 rfl (pre_of hp 12 rfl)
          exact h.yieldG rfl (wanted_none rfl) 66 rfl (by change 66 < 92; decide) rfl _ rfl (by go_simp)
        case o14 =>
          intro f a u h hfi hp hq
          have q66 := h.att 13 rfl (pre_of hp 13 rfl)
          exact h.yieldG rfl (wanted_none rfl) 67 rfl (by change 67 < 92; decide) rfl _ rfl (by go_simp)
        case o15 =>
          intro f a u h hfi hp hq
          have q5 : a.tmps[5]?.getD undef = .pointer (some ⟨p, 0, none⟩) := h.agree.att (by decide)
          exact h.yieldG rfl (wanted_yes (g := 14) (d' := 67) rfl rfl (h.at_ 14 rfl (pre_of hp 14 rfl))) 68 rfl (by change 68 < 92; decide) rfl _ rfl (by go_simp)
        case o16 =>
          intro f a u h hfi hp hq
          have hyu : Ext w14 u := ((Ext.refl w14).drew).trans h.ext
          exact h.callO rfl (wanted_yes (g := 14) (d' := 67) rfl rfl (h.at_ 14 rfl (pre_of hp 14 rfl))) 69 rfl (by change 69 < 92; decide) rfl none _ rfl 12 #[.tmp 68] #[29] _ rfl (by kernel_rfl) (by rw [arr1, h.at_ 15 rfl (pre_of hp 15 rfl)]) (HBY.out u hyu)
        case o17 =>
          intro f a u h hfi hp hq
          obtain ⟨A1, c1, e1, l1, _, hc1⟩ := (h.own 16 rfl (pre_of hp 16 rfl) (fun d hd => by cases hd)).form
          exact h.yieldG rfl (wanted_yes (g := 14) (d' := 67) rfl rfl (h.at_ 14 rfl (pre_of hp 14 rfl))) 70 rfl (by change 70 < 92; decide) rfl _ rfl (run_of_sem rfl (by rw [e1]; exact conv_str (P := Try.prog) Try.underlying31 Try.underlying5 Try.underlying9 rfl hc1))
        case o18 =>
          intro f a u h hfi hp hq
          have q6 : a.tmps[6]?.getD undef = .slice A2 nT c2 := h.agree.att (by decide)
          exact h.yieldG rfl (wanted_yes (g := 14) (d' := 67) rfl rfl (h.at_ 14 rfl (pre_of hp 14 rfl))) 71 rfl (by change 71 < 92; decide) rfl _ rfl (by go_simp)
        case o19 =>
          intro f a u h hfi hp hq
          have hyu : Ext w14 u := ((Ext.refl w14).drew).trans h.ext
          exact h.callG rfl (wanted_yes (g := 14) (d' := 67) rfl rfl (h.at_ 14 rfl (pre_of hp 14 rfl))) 72 rfl (by change 72 < 92; decide) rfl _ rfl 24 #[.tmp 71] #[22] _ rfl (by kernel_rfl) (by rw [arr1, h.at_ 18 rfl (pre_of hp 18 rfl)] <;> rfl) (rbytes_calls T A2 nT c2 u (HRW.out.ext hyu) HNT.out (Nat.le_trans HPT.out (by decide)))
        case o20 =>
          intro f a u h hfi hp hq
          have z : ((bstr (tbB T)).toList == (bstr (tbB T)).toList) = true := by simp
          have q70 := h.att 17 rfl (pre_of hp 17 rfl)
          have q72 := h.att 19 rfl (pre_of hp 19 rfl)
          exact h.yieldG rfl (wanted_yes (g := 14) (d' := 67) rfl rfl (h.at_ 14 rfl (pre_of hp 14 rfl))) 73 rfl (by change 73 < 92; decide) rfl _ rfl (by go_simp)
        case o21 =>
          intro f a u h hfi hp hq
          have q67 := h.att 14 rfl (pre_of hp 14 rfl)
          have q73 := h.att 20 rfl (pre_of hp 20 rfl)
          exact h.yieldG rfl (wanted_none rfl) 74 rfl (by change 74 < 92; decide) rfl _ rfl (by go_simp)
        case o22 =>
          intro f a u h hfi hp hq
          have q74 := h.att 21 rfl (pre_of hp 21 rfl)
          exact h.yieldG rfl (wanted_none rfl) 75 rfl (by change 75 < 92; decide) rfl _ rfl (by go_simp)
        case o23 =>
          intro f a u h hfi hp hq
          have q15 : a.tmps[15]?.getD undef = .bool false := h.agree.att (by decide)
          exact h.yieldG rfl (wanted_yes (g := 22) (d' := 75) rfl rfl (h.at_ 22 rfl (pre_of hp 22 rfl))) 76 rfl (by change 76 < 92; decide) rfl _ rfl (by go_simp)
        case o24 =>
          intro f a u h hfi hp hq
          have q76 := h.att 23 rfl (pre_of hp 23 rfl)
          exact h.yieldG rfl (wanted_yes (g := 22) (d' := 75) rfl rfl (h.at_ 22 rfl (pre_of hp 22 rfl))) 77 rfl (by change 77 < 92; decide) rfl _ rfl (by go_simp)
        case o25 =>
          intro f a u h hfi hp hq
          have q75 := h.att 22 rfl (pre_of hp 22 rfl)
          have q77 := h.att 24 rfl (pre_of hp 24 rfl)
          exact h.yieldG rfl (wanted_none rfl) 78 rfl (by change 78 < 92; decide) rfl _ rfl (by go_simp)
        case o26 =>
          intro f a u h hfi hp hq
          have q78 := h.att 25 rfl (pre_of hp 25 rfl)
          exact h.yieldG rfl (wanted_none rfl) 79 rfl (by change 79 < 92; decide) rfl _ rfl (by go_simp)
        case o27 =>
          intro f a u h hfi hp hq
          have q13 : a.tmps[13]?.getD undef = .pointer none := h.agree.att (by decide)
          exact h.yieldG rfl (wanted_yes (g := 26) (d' := 79) rfl rfl (h.at_ 26 rfl (pre_of hp 26 rfl))) 80 rfl (by change 80 < 92; decide) rfl _ rfl (by go_simp)
        case o28 =>
          intro f a u h hfi hp hq
          exact h.callG rfl (wanted_yes (g := 26) (d' := 79) rfl rfl (h.at_ 26 rfl (pre_of hp 26 rfl))) 81 rfl (by change 81 < 92; decide) rfl _ rfl 20 #[.tmp 80] #[29] _ rfl (by kernel_rfl) (by rw [arr1, h.at_ 27 rfl (pre_of hp 27 rfl)] <;> rfl) (allNil0 u)
        case o29 =>
          intro f a u h hfi hp hq
          have q81 := h.att 28 rfl (pre_of hp 28 rfl)
          exact h.yieldG rfl (wanted_yes (g := 26) (d' := 79) rfl rfl (h.at_ 26 rfl (pre_of hp 26 rfl))) 82 rfl (by change 82 < 92; decide) rfl _ rfl (by go_simp)
        case o30 =>
          intro f a u h hfi hp hq
          have q82 := h.att 29 rfl (pre_of hp 29 rfl)
          exact h.yieldG rfl (wanted_yes (g := 26) (d' := 79) rfl rfl (h.at_ 26 rfl (pre_of hp 26 rfl))) 83 rfl (by change 83 < 92; decide) rfl _ rfl (by go_simp)
        case o31 =>
          intro f a u h hfi hp hq
          have q79 := h.att 26 rfl (pre_of hp 26 rfl)
          have q83 := h.att 30 rfl (pre_of hp 30 rfl)
          exact h.yieldG rfl (wanted_none rfl) 84 rfl (by change 84 < 92; decide) rfl _ rfl (by go_simp)
        case o32 =>
          intro f a u h hfi hp hq
          have q84 := h.att 31 rfl (pre_of hp 31 rfl)
          exact h.yieldG rfl (wanted_none rfl) 85 rfl (by change 85 < 92; decide) rfl _ rfl (by go_simp)
        case o33 =>
          intro f a u h hfi hp hq
          have q13 : a.tmps[13]?.getD undef = .pointer none := h.agree.att (by decide)
          exact h.yieldG rfl (wanted_yes (g := 32) (d' := 85) rfl rfl (h.at_ 32 rfl (pre_of hp 32 rfl))) 86 rfl (by change 86 < 92; decide) rfl _ rfl (by go_simp)
        case o34 =>
          intro f a u h hfi hp hq
          exact h.callO rfl (wanted_yes (g := 32) (d' := 85) rfl rfl (h.at_ 32 rfl (pre_of hp 32 rfl))) 87 rfl (by change 87 < 92; decide) rfl none _ rfl 12 #[.tmp 86] #[29] _ rfl (by kernel_rfl) (by rw [arr1, h.at_ 33 rfl (pre_of hp 33 rfl)]) (bytes_calls (.pointer none) [] 0 rfl u (fun u' _ => allNil_calls u') (Nat.zero_le _))
        case o35 =>
          intro f a u h hfi hp hq
          obtain ⟨A1, c1, e1, l1, _, hc1⟩ := (h.own 34 rfl (pre_of hp 34 rfl) (fun d hd => by cases hd)).form
          exact h.yieldG rfl (wanted_yes (g := 32) (d' := 85) rfl rfl (h.at_ 32 rfl (pre_of hp 32 rfl))) 88 rfl (by change 88 < 92; decide) rfl _ rfl (run_of_sem rfl (by rw [e1]; exact conv_str (P := Try.prog) Try.underlying31 Try.underlying5 Try.underlying9 rfl hc1))
        case o36 =>
          intro f a u h hfi hp hq
          exact h.callG rfl (wanted_yes (g := 32) (d' := 85) rfl rfl (h.at_ 32 rfl (pre_of hp 32 rfl))) 89 rfl (by change 89 < 92; decide) rfl _ rfl 24 #[.const (.slice none 0 0)] #[22] _ rfl (by kernel_rfl) (by rw [arr1] <;> rfl) (rbytes_calls [] none 0 0 u (row_nil u none) rfl (Nat.zero_le _))
        case o37 =>
          intro f a u h hfi hp hq
          have z : ((bstr (tbB [])).toList == (bstr (tbB [])).toList) = true := by simp
          have q88 := h.att 35 rfl (pre_of hp 35 rfl)
          have q89 := h.att 36 rfl (pre_of hp 36 rfl)
          exact h.yieldG rfl (wanted_yes (g := 32) (d' := 85) rfl rfl (h.at_ 32 rfl (pre_of hp 32 rfl))) 90 rfl (by change 90 < 92; decide) rfl _ rfl (by go_simp)
        case o38 =>
          intro f a u h hfi hp hq
          have q85 := h.att 32 rfl (pre_of hp 32 rfl)
          have q90 := h.att 37 rfl (pre_of hp 37 rfl)
          exact h.yieldG rfl (wanted_none rfl) 91 rfl (by change 91 < 92; decide) rfl _ rfl (by go_simp)
        case o39 =>
          intro f a u h hfi hp hq
          have q91 := h.att 38 rfl (pre_of hp 38 rfl)
          exact h.yieldG rfl (wanted_none rfl) 4 rfl (by change 4 < 92; decide) rfl _ rfl (by go_simp)
      · intro f a u h hall hfar
        have hyu : Ext w14 u := ((Ext.refl w14).drew).trans h.ext
        have e4 := h.at_ 39 rfl (hall 39 (by decide))
        have hag := h.agree.out
        simp only [List.foldl_cons, List.foldl_nil, Act.put, List.setIfInBounds_toArray, List.set_cons_zero, List.set_cons_succ, e4] at hag
        generalize a.eval (.tmp 53) = y53 at hag
        generalize a.eval (.tmp 54) = y54 at hag
        generalize a.eval (.tmp 55) = y55 at hag
        generalize a.eval (.tmp 56) = y56 at hag
        generalize a.eval (.tmp 57) = y57 at hag
        generalize a.eval (.tmp 58) = y58 at hag
        generalize a.eval (.tmp 59) = y59 at hag
        generalize a.eval (.tmp 60) = y60 at hag
        generalize a.eval (.tmp 61) = y61 at hag
        generalize a.eval (.tmp 62) = y62 at hag
        generalize a.eval (.tmp 63) = y63 at hag
        generalize a.eval (.tmp 64) = y64 at hag
        generalize a.eval (.tmp 65) = y65 at hag
        generalize a.eval (.tmp 66) = y66 at hag
        generalize a.eval (.tmp 67) = y67 at hag
        generalize a.eval (.tmp 68) = y68 at hag
        generalize a.eval (.tmp 69) = y69 at hag
        generalize a.eval (.tmp 70) = y70 at hag
        generalize a.eval (.tmp 71) = y71 at hag
        generalize a.eval (.tmp 72) = y72 at hag
        generalize a.eval (.tmp 73) = y73 at hag
        generalize a.eval (.tmp 74) = y74 at hag
        generalize a.eval (.tmp 75) = y75 at hag
        generalize a.eval (.tmp 76) = y76 at hag
        generalize a.eval (.tmp 77) = y77 at hag
        generalize a.eval (.tmp 78) = y78 at hag
        generalize a.eval (.tmp 79) = y79 at hag
        generalize a.eval (.tmp 80) = y80 at hag
        generalize a.eval (.tmp 81) = y81 at hag
        generalize a.eval (.tmp 82) = y82 at hag
        generalize a.eval (.tmp 83) = y83 at hag
        generalize a.eval (.tmp 84) = y84 at hag
        generalize a.eval (.tmp 85) = y85 at hag
        generalize a.eval (.tmp 86) = y86 at hag
        generalize a.eval (.tmp 87) = y87 at hag
        generalize a.eval (.tmp 88) = y88 at hag
        generalize a.eval (.tmp 89) = y89 at hag
        generalize a.eval (.tmp 90) = y90 at hag
        generalize a.eval (.tmp 91) = y91 at hag
        clear h hall hfar e4
        subst hag
        go_wp2
        go_ret
        exact ⟨rfl, hx14.trans hyu⟩
end Go.Proofs.Ytnggdkpaofbaaaa
