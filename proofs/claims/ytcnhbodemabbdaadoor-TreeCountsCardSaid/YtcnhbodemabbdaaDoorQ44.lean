/- tree.read: an object that is there and is as its name says. Printed by wip/mktreeread.py. -/
import Derived.Test.YtcnhbodemabbdaaDoorQ37
import Derived.Test.YtcnhbodemabbdaaDoorQ31
import Derived.Test.YtcnhbodemabbdaaDoorQ43
import Derived.Test.YtcnhbodemabbdaaDoorQ30
import Derived.Test.YtcnhbodemabbdaaDoorQ29
import Derived.Test.YtcnhbodemabbdaaDoorQ33
namespace Go.Proofs.YtcnhbodemabbdaaDoor
open Go.RowKit
set_option linter.unusedVariables false

theorem tpool_method (gp : Nat) : ∀ (m : Nat) (w : World), (method (m + 2) 39 (.pointer (some ⟨gp, 0, none⟩)) "Object").run Tryd.prog w = .ok (142, .pointer (some ⟨gp, 0, none⟩)) w := fun m w => by kernel_rfl
theorem build_idz (w : World) : (Instr.build 27 #[]).run Tryd.prog w = .ok (.agg (bv idNone).toArray) w := run_build w 27 _ _ (by kernel_rfl)
theorem run_eq_id {o : Oper} {a : Act} {u : World} (s1 s2 : Nat) (c0 c1 : Array Value) (b : Bool) (ho : o.op = .binOp .eql 27 (.tmp s1) (.tmp s2) 27) (h1 : a.eval (.tmp s1) = .agg c0) (h2 : a.eval (.tmp s2) = .agg c1)
    (hz : (Op.equalIn 10000 27 (.agg c0) (.agg c1)).run Tryd.prog u = .ok b u) : (execOp a.eval o).run Tryd.prog u = .ok (.value (.bool b)) u := by
  have hg : Tryd.prog.eqGuardType Tryd.prog.depth 27 = false := by kernel_rfl
  unfold execOp
  simp [ho, h1, h2, eqGuard, hg, binOp, Op.equal, Op.maxDepth, hz]
theorem run_neq_id2 {o : Oper} {a : Act} {u : World} (s1 s2 : Nat) (c0 c1 : Array Value) (b : Bool) (ho : o.op = .binOp .neq 27 (.tmp s1) (.tmp s2) 27) (h1 : a.eval (.tmp s1) = .agg c0) (h2 : a.eval (.tmp s2) = .agg c1)
    (hz : (Op.equalIn 10000 27 (.agg c0) (.agg c1)).run Tryd.prog u = .ok b u) : (execOp a.eval o).run Tryd.prog u = .ok (.value (.bool (!b))) u := by
  have hg : Tryd.prog.eqGuardType Tryd.prog.depth 27 = false := by kernel_rfl
  unfold execOp
  simp [ho, h1, h2, eqGuard, hg, binOp, Op.equal, Op.maxDepth, hz]
theorem id_head {k : UInt8} (bs : List UInt8) (hk : 0 < idN k) : ∃ xs, idPad (idName k bs) = k :: xs := by
  have h2 : k = 1 ∨ k = 2 := by
    by_cases h1 : k = 1
    · exact .inl h1
    · by_cases h2 : k = 2
      · exact .inr h2
      · rw [idN_other h1 h2] at hk
        cases hk
  rcases h2 with rfl | rfl
  · unfold idName
    rw [if_pos rfl]
    exact ⟨_, rfl⟩
  · unfold idName
    rw [if_neg (by decide), if_pos rfl]
    exact ⟨_, rfl⟩
theorem conv_bytes2 (bs : List UInt8) (w : World) : ∃ c w', (convert 9 87 (.string (bstr bs))).run Tryd.prog w = .ok (.slice (some ⟨w.heap.size, 0, none⟩) bs.length c) w' ∧ bs.length ≤ c ∧ Cells w' (some ⟨w.heap.size, 0, none⟩) (bv bs) ∧ Ext w w' := by
  obtain ⟨c, w', h1, h2, h3, _⟩ := conv_bytes bs w
  have h := Lib.run_convert_string_bytes (P := Tryd.prog) w 9 87 5 (bstr bs) Tryd.underlying9 Tryd.underlying87 Tryd.underlying5
  rw [bstr_size, h1] at h
  refine ⟨c, w', h1, ?_, h2, h3⟩
  injection h with h _
  injection h with _ _ h
  rw [h]
  exact grownCap_ge w bs.length 0 _
theorem exec_convert {o : Oper} {ρ : Operand → Value} {s d : TypeId} {x : Operand} {v : Value} (ho : o.op = .convert s d x) (hx : ρ x = v) : execOp ρ o = (do pure (Next.value (← convert s d v))) := by
  unfold execOp
  rw [ho]
  simp only [hx]
theorem cell_blk {w : World} {g : Nat} {t : TypeId} {cs : Array Value} (h : Blk w g t cs) {p : Addr} {v : Value} (hp : p.block = g) (hc : w.cell? p = some v) : cs[p.off]? = some v := by
  unfold Blk at h
  subst hp
  simp only [World.cell?, h] at hc
  split at hc
  · cases hc
  · exact hc
theorem row_stored {w w' : World} {A : Option Addr} {g k : Nat} {T : TypeId} {nc : Array Value} {css : List (List Value)} (h : Row w A k css) (hs : ∀ cs ∈ css, ∃ s, cs[0]? = some (Value.string s)) (hb : Blk w g T nc) (hn : ∀ (i : Nat) (s : ByteArray), nc[i]? ≠ some (.string s)) (hg : w.grownBy w' (some g)) : Row w' A k css := by
  intro i cs hi
  obtain ⟨hl, x, hx, hc⟩ := h i cs hi
  refine ⟨hl, x, hx, fun j v hv => hg.cell (hc j v hv) ?_⟩
  obtain ⟨s, h0⟩ := hs cs (List.mem_of_getElem? hi)
  rw [block_add, block_add]
  intro e
  exact hn _ s (cell_blk hb (by rw [block_add, block_add]; exact Option.some.inj e) (hc 0 _ h0))
theorem TrAt.stored {w w' : World} {t : Tr} {pa ka : Option Addr} {P K pc kc g : Nat} {T : TypeId} {nc : Array Value} (h : TrAt w t pa ka P K pc kc) (hb : Blk w g T nc) (hn : ∀ (i : Nat) (s : ByteArray), nc[i]? ≠ some (.string s)) (hg : w.grownBy w' (some g)) : TrAt w' t pa ka P K pc kc :=
  ⟨h.hp, h.hk, h.lp, h.lk, row_stored h.cp (fun cs hcs => by obtain ⟨p, _, rfl⟩ := List.mem_map.1 hcs; exact ⟨_, rfl⟩) hb hn hg, row_stored h.ck (fun cs hcs => by obtain ⟨p, _, rfl⟩ := List.mem_map.1 hcs; exact ⟨_, rfl⟩) hb hn hg, h.bp, h.bk, h.sp, h.sk⟩
theorem no_str2 (v1 v2 : Value) (h1 : ∀ s, v1 ≠ .string s) (h2 : ∀ s, v2 ≠ .string s) : ∀ (i : Nat) (s : ByteArray), (#[v1, v2] : Array Value)[i]? ≠ some (.string s) := by
  intro i s
  match i with
  | 0 => intro e; exact h1 s (Option.some.inj e)
  | 1 => intro e; exact h2 s (Option.some.inj e)
  | n + 2 => intro e; cases (show (none : Option Value) = _ from (Array.getElem?_eq_none (by simp)).symm.trans e)

set_option maxRecDepth 100000 in
set_option maxHeartbeats 8000000 in
theorem tread_ok (gp b : Nat) (L : List Ent1) (k : UInt8) (bs : List UInt8) (t : Tr) (w : World) (h : PoolAt w gp b L) (hk : 0 < idN k) (hat : at1 (idPad (idName k bs)) L = some (bstr bs)) (hd : decT bs = some t) (hl : bs.length ≤ 1048576) (hT : Tab w) :
    Calls Tryd.prog 49 #[.iface 39 (.pointer (some ⟨gp, 0, none⟩)), .agg (bv (idPad (idName k bs))).toArray] w fun e w' => ∃ (pa ka : Option Addr) (P K pc kc : Nat), e = .returned (.tuple #[tra pa P pc ka K kc, .int .i64 0]) ∧ TrAt w' t pa ka P K pc kc ∧ Ext w w' := by
  obtain ⟨xs, hxs⟩ := id_head bs hk
  have hx33 : (idPad (idName k bs)).length = 33 := idPad_len (idName_len _ _)
  have hof := fun (A : Option Addr) (n c : Nat) (u : World) (hb : Cells u A (bv bs)) (hn : bs.length = n) (hc : n ≤ c) (hT : Tab u) => idof_calls k A n c bs u hb hn hc (by omega) hT
  unfold idv at hof
  obtain ⟨x, hx⟩ : ∃ x, x = idPad (idName k bs) := ⟨_, rfl⟩
  rw [← hx] at hxs hx33 hof hat ⊢
  have hne : x ≠ idNone := fun e => by
    rw [hxs] at e
    have h1 : k = 0 := (List.cons.inj e).1
    rw [h1] at hk
    cases hk
  have HX := Lib.hid hx33
  have HXS := Lib.hid hxs
  have HOF := Lib.hid hof
  have HTB0 := Lib.hid hT
  have HEQ : Hid (∀ u : World, (Op.equalIn 10000 27 (.agg (bv x).toArray) (.agg (bv x).toArray)).run Tryd.prog u = .ok true u) := Lib.hid (fun u => by have := id_equal x x hx33 hx33 u; rwa [show (x == x) = true from by simp] at this)
  have HNE : Hid (∀ u : World, (Op.equalIn 10000 27 (.agg (bv x).toArray) (.agg (bv idNone).toArray)).run Tryd.prog u = .ok false u) := Lib.hid (fun u => by have := id_equal x idNone hx33 rfl u; rwa [show (x == idNone) = false from by simpa using hne] at this)
  have HOB := Lib.hid (show ∀ (u : World), PoolAt u gp b L → Calls Tryd.prog 142 #[.pointer (some ⟨gp, 0, none⟩), .agg (bv x).toArray] u fun e w'' => e = .returned (.tuple #[.string (bstr bs), .int .i64 0]) ∧ Ext u w'' from fun u h' => by have h := pobject_calls gp b L x u h' hx33; rw [hat] at h; exact h)
  have HGT0 : Hid (∀ (A : Option Addr) (n c : Nat) (u : World), Cells u A (bv bs) → bs.length = n → Calls Tryd.prog 82 #[.slice A n c] u fun e w' => ∃ (pa ka : Option Addr) (P K pc kc : Nat), e = .returned (.tuple #[tra pa P pc ka K kc, .int .i64 0]) ∧ TrAt w' t pa ka P K pc kc ∧ Ext u w') := Lib.hid (fun A n c u hb hn => by
    have h1 := getTree_calls A n c bs u hb hn (by omega)
    rw [hd] at h1
    exact h1)
  have hmeth := tpool_method gp 304
  clear hof hne hat hd hx hxs
  go_enter Tryd.func49, Tryd.ntmps49
  obtain ⟨w1, hw1⟩ : ∃ w1, w1 = (w.alloc (.cells (bv x).toArray 27)).alloc (.cells #[.slice none 0 0, .slice none 0 0] 73) := ⟨_, rfl⟩
  have hx1 : Ext w w1 := by rw [hw1]; exact ((Ext.refl _).alloc _).alloc _
  have hbi : Blk w1 w.heap.size 27 (bv x).toArray := by rw [hw1]; exact (Blk.new w _ _).ext ((Ext.refl _).alloc _)
  have hbt : Blk w1 (w.heap.size + 1) 73 #[.slice none 0 0, .slice none 0 0] := by rw [hw1]; exact Blk.new_at (by simp) _ _
  have HP1 := Lib.hid (h.ext hx1)
  go_upto_region 1 with (fail)
  rw [← hw1]
  obtain ⟨g3, hg3⟩ : ∃ g, g = w.heap.size := ⟨_, rfl⟩
  obtain ⟨g4, hg4e⟩ : ∃ g, g = w.heap.size + 1 := ⟨_, rfl⟩
  have hg4 : w.heap.size ≤ g4 := by omega
  rw [← hg4e] at hbt ⊢
  rw [← hg3] at hbi ⊢
  have HBT := Lib.hid hbt
  have hci := hbi.cells
  rw [List.toList_toArray] at hci
  have HCI1 := Lib.hid hci
  have hcx : ∀ (j : Nat) (v : Value), (bv x)[j]? = some v → w1.cell? ((⟨g3, 0, none⟩ : Addr).add j) = some v := fun j v hv => by
    obtain ⟨y, hy, hc⟩ := hci j v hv
    cases hy
    exact hc
  have HCX := Lib.hid hcx
  clear hw1 hbi hbt hg3 hg4e h hci hcx hT
  go_upto_region 4 with (first
    | (refine wpList_load_row_ rfl 27 (.tmp 3) rfl ⟨g3, 0, none⟩ rfl (bv x) _ HCX.out Tryd.underlying27 rfl (by rw [id_info, bv_length, HX.out]) ?_)
    | (go_at_call 142; (with_reducible refine (HOB.out w1 HP1.out).mono ?_); rintro e w2 ⟨rfl, hx2⟩))
  have hx12 := hx1.trans hx2
  have HCI := Lib.hid (HCI1.out.ext hx2)
  have HB42 := Lib.hid (HBT.out.ext hx2)
  have HTB := Lib.hid (HTB0.out.ext hx12)
  have HC0 : Hid (∀ u : World, Ext w2 u → u.cell? ⟨g3, 0, none⟩ = some (.int .u8 k.toNat)) := Lib.hid (fun u hu => by
    obtain ⟨y, hy, hc⟩ := HCI.out.ext hu 0 (.int .u8 k.toNat) (by rw [HXS.out]; rfl)
    cases hy
    exact hc)
  clear hmeth hx1 hx2
  refine wp_region_ops (FInv [18, 19, 20, 21, 22, 23, 24, 25, 26, 27, 28, 29] _ w2.drew [⟨0, none, 18, .val (.pointer (some ⟨g3, 0, none⟩))⟩, ⟨1, none, 19, .val (.int .u8 k.toNat)⟩, ⟨2, none, 20, .val (.string (bstr bs))⟩, ⟨3, none, 21, .any (fun u v => ∃ A n c, v = .slice A n c ∧ bs.length = n ∧ n ≤ c ∧ Cells u A (bv bs)) (fun u u' v ⟨A, n, c, e, hn, hc, hr⟩ k => ⟨A, n, c, e, hn, hc, hr.ext k⟩)⟩, ⟨4, none, 22, .val (.agg (bv x).toArray)⟩, ⟨5, none, 23, .val (.agg (bv x).toArray)⟩, ⟨6, none, 24, .val (.bool false)⟩, ⟨7, none, 25, .val (.bool false)⟩, ⟨8, none, 26, .val (.agg (bv x).toArray)⟩, ⟨9, none, 27, .val (.agg (bv idNone).toArray)⟩, ⟨10, none, 28, .val (.bool false)⟩, ⟨11, none, 29, .val (.bool false)⟩]) (by kernel_rfl) (by kernel_rfl) FInv.start ?_ ?_
  · refine ⟨?o0, ?o1, ?o2, ?o3, ?o4, ?o5, ?o6, ?o7, ?o8, ?o9, ?o10, ?o11, trivial⟩
    case o0 =>
      intro f a u h hfi hp hq
      have q3 : a.tmps[3]?.getD undef = .pointer (some ⟨g3, 0, none⟩) := h.agree.att (by decide)
      exact h.yieldG rfl (wanted_none rfl) 18 rfl (by change 18 < 36; decide) rfl _ rfl (by go_simp)
    case o1 =>
      intro f a u h hfi hp hq
      have hyu : Ext w2 u := ((Ext.refl w2).drew).trans h.ext
      have hcell : u.cell? ⟨g3, 0, none⟩ = some (.int .u8 k.toNat) := HC0.out u hyu
      have q18 := h.att 0 rfl (pre_of hp 0 rfl)
      exact h.yieldG rfl (wanted_none rfl) 19 rfl (by change 19 < 36; decide) rfl _ rfl (by go_simp)
    case o2 =>
      intro f a u h hfi hp hq
      have q6 : a.tmps[6]?.getD undef = .string (bstr bs) := h.agree.att (by decide)
      exact h.yieldG rfl (wanted_none rfl) 20 rfl (by change 20 < 36; decide) rfl _ rfl (by go_simp)
    case o3 =>
      intro f a u h hfi hp hq
      obtain ⟨cv, wv, hcv, hle, hcc, hxc⟩ := conv_bytes2 bs u
      refine h.stepG rfl (wanted_none rfl) (some 21) rfl rfl (wp_yield (v := .slice (some ⟨u.heap.size, 0, none⟩) bs.length cv) (w' := wv) (run_of_sem (s := convert 9 87 (.string (bstr bs))) (exec_convert rfl (h.at_ 2 rfl (pre_of hp 2 rfl))) hcv) ?_)
      exact ⟨_, rfl, hxc, born_any (by change 21 < 36; decide) h rfl ⟨_, _, cv, rfl, rfl, hle, hcc⟩⟩
    case o4 =>
      intro f a u h hfi hp hq
      have hyu : Ext w2 u := ((Ext.refl w2).drew).trans h.ext
      obtain ⟨A1, n1, c1, e1, hn1, hc1, hb1⟩ := h.fact 3 rfl (pre_of hp 3 rfl) (fun d hd => by cases hd)
      exact h.callG rfl (wanted_none rfl) 22 rfl (by change 22 < 36; decide) rfl _ rfl 40 #[.tmp 19, .tmp 21] #[5, 87] _ rfl (by kernel_rfl) (by rw [arr2, e1, h.at_ 1 rfl (pre_of hp 1 rfl)]) (HOF.out A1 n1 c1 u hb1 hn1 hc1 (HTB.out.ext hyu))
    case o5 =>
      intro f a u h hfi hp hq
      have hyu : Ext w2 u := ((Ext.refl w2).drew).trans h.ext
      exact h.yieldG rfl (wanted_none rfl) 23 rfl (by change 23 < 36; decide) rfl _ rfl (run_of_sem rfl (by rw [(show a.eval (.tmp 3) = .pointer (some ⟨g3, 0, none⟩) from h.agree.eval (by decide))]; exact ld_id HX.out (HCI.out.ext hyu)))
    case o6 =>
      intro f a u h hfi hp hq
      exact h.yieldG rfl (wanted_none rfl) 24 rfl (by change 24 < 36; decide) rfl _ rfl (run_neq_id2 22 23 (bv x).toArray (bv x).toArray true rfl (h.at_ 4 rfl (pre_of hp 4 rfl)) (h.at_ 5 rfl (pre_of hp 5 rfl)) (HEQ.out u))
    case o7 =>
      intro f a u h hfi hp hq
      have q24 := h.att 6 rfl (pre_of hp 6 rfl)
      exact h.yieldG rfl (wanted_none rfl) 25 rfl (by change 25 < 36; decide) rfl _ rfl (by go_simp)
    case o8 =>
      intro f a u h hfi hp hq
      have hyu : Ext w2 u := ((Ext.refl w2).drew).trans h.ext
      exact h.yieldG rfl (wanted_yes (g := 7) (d' := 25) rfl rfl (h.at_ 7 rfl (pre_of hp 7 rfl))) 26 rfl (by change 26 < 36; decide) rfl _ rfl (run_of_sem rfl (by rw [(show a.eval (.tmp 3) = .pointer (some ⟨g3, 0, none⟩) from h.agree.eval (by decide))]; exact ld_id HX.out (HCI.out.ext hyu)))
    case o9 =>
      intro f a u h hfi hp hq
      exact h.yieldG rfl (wanted_yes (g := 7) (d' := 25) rfl rfl (h.at_ 7 rfl (pre_of hp 7 rfl))) 27 rfl (by change 27 < 36; decide) rfl _ rfl (run_of_sem (s := Instr.build 27 #[]) (exec_build rfl (by rw [arr0])) (build_idz u))
    case o10 =>
      intro f a u h hfi hp hq
      exact h.yieldG rfl (wanted_yes (g := 7) (d' := 25) rfl rfl (h.at_ 7 rfl (pre_of hp 7 rfl))) 28 rfl (by change 28 < 36; decide) rfl _ rfl (run_eq_id 26 27 (bv x).toArray (bv idNone).toArray false rfl (h.at_ 8 rfl (pre_of hp 8 rfl)) (h.at_ 9 rfl (pre_of hp 9 rfl)) (HNE.out u))
    case o11 =>
      intro f a u h hfi hp hq
      have q25 := h.att 7 rfl (pre_of hp 7 rfl)
      have q28 := h.att 10 rfl (pre_of hp 10 rfl)
      exact h.yieldG rfl (wanted_none rfl) 29 rfl (by change 29 < 36; decide) rfl _ rfl (by go_simp)
  · intro f a u h hall hfar
    have hyu : Ext w2 u := ((Ext.refl w2).drew).trans h.ext
    have e29 := h.at_ 11 rfl (hall 11 (by decide))
    have hag := h.agree.out
    simp only [List.foldl_cons, List.foldl_nil, Act.put, List.setIfInBounds_toArray, List.set_cons_zero, List.set_cons_succ, e29] at hag
    generalize a.eval (.tmp 18) = y18 at hag
    generalize a.eval (.tmp 19) = y19 at hag
    generalize a.eval (.tmp 20) = y20 at hag
    generalize a.eval (.tmp 21) = y21 at hag
    generalize a.eval (.tmp 22) = y22 at hag
    generalize a.eval (.tmp 23) = y23 at hag
    generalize a.eval (.tmp 24) = y24 at hag
    generalize a.eval (.tmp 25) = y25 at hag
    generalize a.eval (.tmp 26) = y26 at hag
    generalize a.eval (.tmp 27) = y27 at hag
    generalize a.eval (.tmp 28) = y28 at hag
    clear h hall hfar e29
    subst hag
    obtain ⟨cv, w6, hcv, hcc, hx6, _⟩ := conv_bytes bs u
    obtain ⟨N, hN⟩ : ∃ x, bs.length = x := ⟨_, rfl⟩
    rw [hN] at hcv
    have hxu6 := hyu.trans hx6
    have HGT := Lib.hid (HGT0.out (some ⟨u.heap.size, 0, none⟩) N cv w6 hcc hN)
    have HB46 := Lib.hid (HB42.out.ext hxu6)
    clear hcc hN
    go_upto_region 6 with (fail)
    go_wp2_with (first
      | (go_at_call 82; (with_reducible refine Calls.mono HGT.out ?_); rintro e w7 ⟨pa, ka, P, K, pc, kc, rfl, ht, hx7⟩; have HTR := Lib.hid ht; have HB47 := Lib.hid (HB46.out.ext hx7); clear ht)
      | (refine wpList_store_blk rfl 73 (.tmp 4) (.tmp 34) rfl rfl g4 #[.slice pa P pc, .slice ka K kc] rfl rfl 73 #[.slice none 0 0, .slice none 0 0] HB47.out rfl (by kernel_rfl) (by simp [Value.oneCell']) ?_; intro wz hbz hgz; have hxz := (hx12.trans (hxu6.trans hx7)).grown_ hgz (fun j e => by cases e; exact hg4)))
    refine bodyPost_ret (results_row_tmp (P := Tryd.prog) (fn := Tryd.f49) rfl _ _ g4 73 #[.slice pa P pc, .slice ka K kc] _ rfl hbz Tryd.underlying73 rfl (by kernel_rfl)) rfl ?_
    exact ⟨pa, ka, P, K, pc, kc, rfl, HTR.out.stored HB47.out (no_str2 _ _ (fun s e => by cases e) (fun s e => by cases e)) hgz, hxz⟩
end Go.Proofs.YtcnhbodemabbdaaDoor
/- x[lo:hi] of a slice; a result in a cell and two in slots. -/
namespace Go.Proofs.YtcnhbodemabbdaaDoor
open Go.RowKit
set_option linter.unusedVariables false

theorem run_slice_lh {P : Program} {w : World} (t e : TypeId) (ht : P.underlying t = some (.slice e)) (sz : Nat) (hs : (P.info? e).map (·.size) = some sz) (A : Option Addr) (n c lo hi : Nat) (hlo : lo ≤ hi) (hhi : hi ≤ c) (k1 k2 : IntKind) :
    (Instr.sliceAt t (.slice A n c) (some (.int k1 lo)) (some (.int k2 hi)) none).run P w = .ok (.slice (if c = lo then A else A.map (·.add (lo * sz))) (hi - lo) (c - lo)) w := by
  cases hq : P.info? e with
  | none => simp [hq] at hs
  | some i =>
    have hi' : i.size = sz := by simpa [hq] using hs
    have h0 : (0 : Int) ≤ (lo : Int) ∧ (lo : Int) ≤ (hi : Int) := by omega
    have h1 : (0 : Int) ≤ (hi : Int) ∧ (hi : Int) ≤ (c : Int) := by omega
    simp [Instr.sliceAt, Instr.slice, Instr.sliceBounds, Instr.sliceBound, asIntOf, run_underlying ht, sizeOf, typeInfo, hq, hi', h0, h1, hlo, hhi]
theorem wpList_slice_lh {P : Program} {ops : Array Oper} {rest : List Oper} {o : Oper} {a : Act} {w : World} {Q : Exit → Act → World → Prop} (hgd : o.guard = none) (t e : TypeId) (x y z : Operand) (ho : o.op = .slice t x (some y) (some z) none) (ht : P.underlying t = some (.slice e)) (sz : Nat) (hs : (P.info? e).map (·.size) = some sz)
    (A : Option Addr) (n c lo hi : Nat) (k1 k2 : IntKind) (hx : a.eval x = .slice A n c) (hy : a.eval y = .int k1 lo) (hz : a.eval z = .int k2 hi) (hlo : lo ≤ hi) (hhi : hi ≤ n) (hc : n ≤ c) {cs : List Value} (h : Cells w A cs) (hcs : cs.length = n * sz)
    (hK : ∀ A', Cells w A' (cs.drop (lo * sz)) → Same A A' → wpList P ops Q rest (a.put o.dst (.slice A' (hi - lo) (c - lo))) w) : wpList P ops Q (o :: rest) a w :=
  wpList_plain hgd fun _ hk' => by
    have hr := run_slice_lh (P := P) (w := w) t e ht sz hs A n c lo hi hlo (by omega) k1 k2
    obtain ⟨h1, h2⟩ := cut_cells (c := c) (k := lo) h hcs (by omega) hc
    unfold Oper.wp execOp
    simp only [ho, hx, hy, hz, Option.map_some, Option.map_none, Sem.run_bind, hr, Result.andThen_ok, Sem.run_pure]
    exact hk' _ _ (hK _ h1 h2)
theorem results_row_tmp2 {P : Program} {fn : Func} {p u v : Tmp} {ty : TypeId} (h : fn.results = #[.cell p ty, .tmp u, .tmp v]) (tmps : Array Value) (w : World) (g : Nat) (t : TypeId) (cs : Array Value) (d : TypeDesc)
    (hp : tmps.getD p undef = .pointer (some ⟨g, 0, none⟩)) (hg : Blk w g t cs)
    (hu : P.underlying ty = some d) (hd : (match d with | .struct _ | .array _ _ => true | _ => false) = true) (hi : (P.info? ty).map (·.size) = some cs.size) :
    (results fn tmps).run P w = .ok (.tuple #[.agg cs, tmps.getD u undef, tmps.getD v undef]) w := by
  have hp' : tmps[p]?.getD undef = .pointer (some ⟨g, 0, none⟩) := by simpa using hp
  simp only [results, h]
  simp [Sem.run_bind, Result.andThen, hp', asAddr, run_loadVar_row w g t ty cs (0, 0) d hg hu hd hi]
theorem Cells.sub {w : World} {A : Option Addr} {sz : Nat} {css : List (List Value)} (lo k : Nat) (h : Cells w A (css.flatten.drop (lo * sz))) (hs : ∀ cs ∈ css, cs.length = sz) (hp : 0 < sz) : Row w A sz ((css.drop lo).take k) := by
  have e : ∀ (l : List (List Value)) (m : Nat), (∀ cs ∈ l, cs.length = sz) → l.flatten.drop (m * sz) = (l.drop m).flatten := fun l m => by
    induction m generalizing l with
    | zero => intro _; simp
    | succ m ih =>
      intro hl
      cases l with
      | nil => simp
      | cons a t =>
        have ha := hl a (List.mem_cons_self ..)
        rw [List.flatten_cons, Nat.succ_mul, Nat.add_comm, List.drop_append, List.drop_succ_cons]
        rw [List.drop_of_length_le (by omega), List.nil_append, ha, Nat.add_sub_cancel_left]
        exact ih t fun cs h => hl cs (List.mem_cons_of_mem _ h)
  rw [e css lo hs] at h
  have h2 : Cells w A ((css.drop lo).take k).flatten := by
    have hl : (css.drop lo).flatten = ((css.drop lo).take k).flatten ++ ((css.drop lo).drop k).flatten := by rw [← List.flatten_append, List.take_append_drop]
    rw [hl] at h
    have := h.take ((css.drop lo).take k).flatten.length
    rwa [List.take_left] at this
  exact Cells.row h2 (fun cs hcs => hs cs (List.mem_of_mem_drop (List.mem_of_mem_take hcs))) hp
end Go.Proofs.YtcnhbodemabbdaaDoor
