/- TableMerges: the walk. Printed by wip/mktabmerges.py. -/
import Derived.Test.YtdhbnfhmcnacoaaTabSt
import Derived.Test.YtdhbnfhmcnacoaaTabLaw
import Derived.Test.YtdhbnfhmcnacoaaOpenTab
namespace Go.Proofs.Ytdhbnfhmcnacoaa
open Go.RowKit Go.Shelf
set_option linter.unusedVariables false

theorem deq_self (x : W3) : decide (x = x) = true := by simp
set_option maxRecDepth 50000 in
set_option maxHeartbeats 16000000 in
theorem tableMerges_calls (b : Bool) (ls : List (List W3)) (A : Option Addr) (n c : Nat) (key : ByteArray) (w : World) (hr : WSs w A ls) (hn : ls.length = n) (hn9 : n ≤ 140737488351232) (hl : ∀ l ∈ ls, l.length ≤ 140737488351232 ∧ ∀ p ∈ l, okW p) (hk9 : key.size ≤ 140737488351232) :
    Calls Try.prog 4 #[.bool b, .slice A n c, .string key] w fun e w' => e = .returned (.bool true) ∧ Ext w w' := by
  have HR := Lib.hid hr
  have HN := Lib.hid hn
  have HL := Lib.hid hl
  clear hr hn hl
  go_enter Try.func4, Try.ntmps4
  by_cases h8 : (8 : Int) < (n : Int)
  · go_wp2_with (go_at_call 8; (with_reducible refine (tab_alive w).mono ?_); rintro e w1 ⟨rfl, hx1⟩)
    go_ret
    exact ⟨rfl, hx1⟩
  by_cases h10 : (1024 : Int) < (key.size : Int)
  · go_wp2_with (go_at_call 8; (with_reducible refine (tab_alive w).mono ?_); rintro e w1 ⟨rfl, hx1⟩)
    go_ret
    exact ⟨rfl, hx1⟩
  go_upto_region 10 with (first
    | (go_at_call 8; (with_reducible refine (tab_alive w).mono ?_); rintro e w1 ⟨rfl, hx1⟩)
    | (refine wpList_store_blk rfl 46 (.tmp 9) (.tmp 29) rfl rfl w1.heap.size (wC zW).toArray rfl rfl _ _ (Blk.new w1 _ _) rfl (by kernel_rfl) (wC_one zW) ?_; intro w2 hb2 hg2; have hx12 : Ext w1 w2 := ((Ext.refl _).alloc _).grown_ hg2 (fun j e => by cases e; exact Nat.le_refl _)))
  obtain ⟨g, hgg⟩ : ∃ g, g = w1.heap.size := ⟨_, rfl⟩
  rw [← hgg] at hb2 hg2 ⊢
  have hgw : w.heap.size ≤ g := by rw [hgg]; exact hx1.size
  have hx2 := hx1.trans hx12
  obtain ⟨B, hB⟩ : ∃ B, B = w2.heap.size := ⟨_, rfl⟩
  have hgB : g < B := by rw [hB]; exact hb2.lt
  have HB2 := Lib.hid hb2
  have HBB := Lib.hid hB
  have hwB : w.heap.size ≤ B := by omega
  have hn8 : n ≤ 8 := by omega
  clear hb2 hg2 hgg hx1 hx12 hB
  have hm0 : (0 : Int) ≤ 8192 ∧ (8192 : Int) ≤ 1000000 := by decide
  have HM0 := Lib.hid hm0
  clear hm0
  go_loopw [32, 7, 8, 10] (fun i vt vp bb wr => ∃ (k : Nat) (qs : List (Nat × List W3)) (ps : List (Value × List W3)) (r : Option W3), k ≤ n ∧ i = .int .i64 k ∧ bb = .bool r.isSome ∧ Hid (r = lastW key (ls.take k)) ∧ Hid (MgSt B g wr vt qs vp ps (r.getD zW)) ∧ Hid (qs.map (·.2) = (ls.take k).map tabOf ∧ ps.map (·.2) = (ls.take k).map tabOf ∧ ∀ l ∈ ls.take k, l.length ≤ 8192) ∧ Ext w wr ∧ B ≤ wr.heap.size) (fun i _ _ _ _ => n - (intOf i).toNat)
  case atStart =>
    refine ⟨0, [], [], none, Nat.zero_le _, rfl, rfl, Lib.hid rfl, Lib.hid ⟨World.ownsRow_nil w2 B _ 1, (fun t ht => by cases ht), World.ownsRow_nil w2 B _ 1, (fun t ht => by cases ht), HB2.out⟩, Lib.hid ⟨rfl, rfl, (fun t ht => by cases ht)⟩, hx2, by rw [HBB.out]; exact Nat.le_refl _⟩
  case round =>
    obtain ⟨k, qs, ps, r, hk, rfl, rfl, HRR, HS, HQ, hx, hBw⟩ := hrel
    obtain ⟨At, ct, rfl, _, _, hct⟩ := own_form HS.out.tabs (by decide)
    obtain ⟨Ap, cp, rfl, _, _, hcp⟩ := own_form HS.out.plain (by decide)
    have HCT := Lib.hid hct
    clear hct hcp
    have hql : qs.length = k := by
      have h1 := congrArg List.length HQ.out.1
      rw [List.length_map, List.length_map, List.length_take, HN.out] at h1
      omega
    have hpl : ps.length = k := by
      have h1 := congrArg List.length HQ.out.2.1
      rw [List.length_map, List.length_map, List.length_take, HN.out] at h1
      omega
    by_cases hlt : k < n
    · have hkl : k < ls.length := by rw [HN.out]; exact hlt
      obtain ⟨l, hle⟩ : ∃ l, ls[k]? = some l := ⟨_, List.getElem?_eq_getElem hkl⟩
      obtain ⟨hll, hli⟩ := HL.out l (List.mem_of_getElem? hle)
      have htk : ls.take (k + 1) = ls.take k ++ [l] := by rw [List.take_add_one, hle]; rfl
      obtain ⟨ad, v, rfl, hcell0, A7, c7, rfl, hrow⟩ := HR.out k l hle
      have hcell : wr.cell? (ad.add k) = some (.slice A7 l.length c7) := hx.cell hcell0
      obtain ⟨m, hm⟩ : ∃ m, l.length = m := ⟨_, rfl⟩
      rw [hm] at hcell hll
      have HM := Lib.hid hm
      have HTK := Lib.hid htk
      have HROW := Lib.hid hrow
      have HG := Lib.hid (rgreat_calls l A7 m c7 8192 wr (hrow.ext hx) hm hll HM0.out hli)
      clear hcell0 hrow htk hle hkl hm hli
      have hp0 : (0 : Int) ≤ (k : Int) := by omega
      have hp1 : (k : Int) < (n : Int) := by omega
      rw [hql, hpl]
      go_upto_region 14 with (first
        | (go_at_call 9; (with_reducible refine HG.out.mono ?_); rintro e w3 ⟨⟨bg, rfl, hbg⟩, hx3⟩; cases bg))
      rotate_left
      · go_ret
        exact ⟨rfl, hx.trans hx3⟩
      have hm8 : m ≤ 8192 := by have := hbg (by trivial); omega
      clear hbg HG
      have hx03 := hx.trans hx3
      have hB3 : B ≤ w3.heap.size := Nat.le_trans hBw hx3.size
      have HS3 := Lib.hid (HS.out.ext hx3)
      have HOF := Lib.hid (of_calls l A7 m c7 w3 (HROW.out.ext hx03) HM.out (by omega))
      clear HS
      go_upto_region 15 with (go_at_call 12; (with_reducible refine Calls.mono HOF.out ?_); rintro e w4 ⟨p, rfl, hp, ht4, hx4⟩)
      obtain ⟨T, hT⟩ : ∃ T, T = tabOf l := ⟨_, rfl⟩
      rw [← hT] at ht4
      have hTl : T.length ≤ 8192 := by have := tabOf_len l; rw [← hT, HM.out] at this; omega
      have HS4 := Lib.hid (HS3.out.ext hx4)
      have ht4' : TabAt B w4 p T := ht4.lower hB3
      have HT4 := Lib.hid ht4'
      have hBp : B ≤ p := Nat.le_trans hB3 hp
      have hB4 : B ≤ w4.heap.size := Nat.le_trans hB3 hx4.size
      have hx04 := hx03.trans hx4
      have HTT := Lib.hid hT
      have hlit4 : Ext w4 (w4.alloc (.cells #[.pointer (some ⟨p, 0, none⟩)] 29)) := (Ext.refl w4).alloc _
      have HS4L := Lib.hid (HS4.out.ext hlit4)
      have HT4L := Lib.hid (ht4'.ext hlit4)
      have HTABS : Hid ((w4.alloc (.cells #[.pointer (some ⟨p, 0, none⟩)] 29)).ownsRow B 29 1 (.slice At k ct) k (qs.map fun t => tptr t.1)) := Lib.hid (by have := HS4L.out.tabs; rwa [hql] at this)
      have hB4L : B ≤ (w4.alloc (.cells #[.pointer (some ⟨p, 0, none⟩)] 29)).heap.size := Nat.le_trans hB4 hlit4.size
      have hx04L := hx04.trans hlit4
      clear ht4 ht4' hT HOF HS3 hx3 hx4 hp hlit4
      go_upto_region 16 with (at_builtin; refine wpList_append_1 _ rfl (.tmp 40) (.tmp 42) 44 29 (.pointer none) 8 rfl Try.underlying44 ptr_info rfl (by decide) B k (.slice At k ct) (qs.map fun t => tptr t.1) rfl HTABS.out (some ⟨w4.heap.size, 0, none⟩) 1 1 [.pointer (some ⟨p, 0, none⟩)] rfl rfl (Blk.new w4 29 #[.pointer (some ⟨p, 0, none⟩)]).cells (by simp [Value.oneCell']) (by omega) hB4L ?_; intro v5 w5 ho5 hg5; have hx5 := hx04L.grown_ hg5 (fun j e => Nat.le_trans hwB (own_lt HTABS.out e).1))
      have HS5 : Hid (MgSt B g w5 v5 (qs ++ [(p, T)]) (.slice Ap ps.length cp) ps (r.getD zW)) := Lib.hid (HS4L.out.pushT (t := (p, T)) (by rw [hql]; exact ho5) (by rw [hql]; exact hg5) HT4L.out hBp)
      have hB5 : B ≤ w5.heap.size := Nat.le_trans hB4L hg5.size
      have HT5 := Lib.hid (HS5.out.tAt (p, T) (by simp)).1
      clear ho5 hg5 HTABS HS4 HS4L HT4 HT4L
      have HRO := Lib.hid (rof_calls l A7 m c7 w5 (HROW.out.ext hx5) HM.out (by omega))
      go_upto_region 17 with (first
        | (go_at_call 22; (with_reducible refine Calls.mono HRO.out ?_); rintro e w6 ⟨v6, rfl, ho6, hx6⟩; rw [← HTT.out] at ho6; obtain ⟨A6, c6, rfl, _, _, hc6⟩ := ho6.form; have HO6 := Lib.hid (ho6.lower hB5); have hlit6 : Ext w6 (w6.alloc (.cells #[.slice A6 T.length c6] 22)) := (Ext.refl w6).alloc _; have HS6L := Lib.hid (HS5.out.ext (hx6.trans hlit6)); have hp6 := HS6L.out.plain; rw [hpl] at hp6; have HP6 := Lib.hid hp6; have hB6L := Nat.le_trans hB5 (hx6.trans hlit6).size; have hx06L := hx5.trans (hx6.trans hlit6); clear ho6 hc6 hp6)
        | (at_builtin; refine wpList_append_1 _ rfl (.tmp 44) (.tmp 47) 43 22 (.slice none 0 0) 24 rfl Try.underlying43 sl_info rfl (by decide) B k (.slice Ap k cp) (ps.map (·.1)) rfl HP6.out (some ⟨w6.heap.size, 0, none⟩) 1 1 [.slice A6 T.length c6] rfl rfl (Blk.new w6 22 #[.slice A6 T.length c6]).cells (by simp [Value.oneCell']) (by omega) hB6L ?_; intro v7 w7 ho7 hg7; have hx7 := hx06L.grown_ hg7 (fun j e => Nat.le_trans hwB (own_lt HP6.out e).1)))
      have HS7 : Hid (MgSt B g w7 v5 (qs ++ [(p, T)]) v7 (ps ++ [(.slice A6 T.length c6, T)]) (r.getD zW)) := Lib.hid (HS6L.out.pushP (p := (.slice A6 T.length c6, T)) (by rw [hpl]; exact ho7) (by rw [hpl]; exact hg7) (HO6.out.ext hlit6))
      have hB7 : B ≤ w7.heap.size := Nat.le_trans hB6L hg7.size
      have ht7 : TabAt B w7 p T := (HS7.out.tAt (p, T) (by simp)).1
      have HT7 := Lib.hid ht7
      have hTs : SortedW T := by rw [HTT.out]; exact tabOf_sorted l
      obtain ⟨x, hxx⟩ : ∃ x, x = lookW key T := ⟨_, rfl⟩
      have HXX := Lib.hid hxx
      have HGET := Lib.hid (get_is p T key w7 (ht7.lower (Nat.zero_le _)) (by omega) hTs x hxx.symm (x.getD zW) rfl x.isSome rfl)
      have HQ7 : Hid ((qs ++ [(p, T)]).map (·.2) = (ls.take (k + 1)).map tabOf ∧ (ps ++ [((.slice A6 T.length c6 : Value), T)]).map (·.2) = (ls.take (k + 1)).map tabOf ∧ ∀ l ∈ ls.take (k + 1), l.length ≤ 8192) := Lib.hid (by
        obtain ⟨q1, q2, q3⟩ := HQ.out
        rw [HTK.out]
        refine ⟨by rw [List.map_append, List.map_append, q1, HTT.out]; rfl, by rw [List.map_append, List.map_append, q2, HTT.out]; rfl, fun y hy => ?_⟩
        rcases List.mem_append.1 hy with hy | hy
        · exact q3 y hy
        · rw [List.mem_singleton] at hy
          subst hy
          rw [HM.out]
          exact hm8)
      have HLW : Hid (x.or r = lastW key (ls.take (k + 1))) := Lib.hid (by rw [HTK.out, lastW_snoc, ← HRR.out, ← HTT.out, ← HXX.out])
      clear ho7 hg7 HP6 HS6L HO6 HS5 HRO hx5 hx6 hlit6 ht7 hTs hxx hB5 hB6L hx06L HT5 HQ HRR HTT HXX HM HROW HTK hql hpl hm8 hTl hll hcell hB4 hB3 hx04 hx04L hB4L hx03
      cases x with
      | none =>
        have hor : (none : Option W3).or r = r := rfl
        have hlw := HLW.out
        rw [hor] at hlw
        have HLW2 := Lib.hid hlw
        clear hor hlw HLW
        go_wp2_with (first
          | (go_at_call 23; (with_reducible refine Calls.mono HGET.out ?_); rintro e w8 ⟨rfl, hx8⟩; have hl8 := (Ext.refl w8).alloc (.cells #[.string { data := #[] }, .string { data := #[] }, .bool false] 46))
          | (refine wpList_store_blk rfl 46 (.tmp 14) (.tmp 53) rfl rfl w8.heap.size (wC zW).toArray rfl rfl _ _ (Blk.new w8 _ _) rfl (by kernel_rfl) (wC_one zW) ?_; intro w9 hb9 hg9; have hx9 : Ext w8 w9 := hl8.grown_ hg9 (fun j e => by cases e; exact Nat.le_refl _)))
        have hx79 := hx8.trans hx9
        have HS9 := Lib.hid (HS7.out.ext hx79)
        clear HS7 hb9 hg9 hl8
        go_roundw
        case rel => exact ⟨k + 1, _, _, r, by omega, by go_num, rfl, HLW2, HS9, HQ7, hx7.trans hx79, Nat.le_trans hB7 hx79.size⟩
        case measure => simp [intOf]; omega
      | some y =>
        have hor : (some y).or r = some y := rfl
        have hlw := HLW.out
        rw [hor] at hlw
        have HLW2 := Lib.hid hlw
        clear hor hlw HLW
        go_upto_region 18 with (first
          | (go_at_call 23; (with_reducible refine Calls.mono HGET.out ?_); rintro e w8 ⟨rfl, hx8⟩; have hl8 := (Ext.refl w8).alloc (.cells #[.string { data := #[] }, .string { data := #[] }, .bool false] 46))
          | (refine wpList_store_blk rfl 46 (.tmp 14) (.tmp 53) rfl rfl w8.heap.size (wC y).toArray rfl rfl _ _ (Blk.new w8 _ _) rfl (by kernel_rfl) (wC_one y) ?_; intro w9 hb9 hg9; have hx9 : Ext w8 w9 := hl8.grown_ hg9 (fun j e => by cases e; exact Nat.le_refl _)))
        have hx79 := hx8.trans hx9
        have HS9 := Lib.hid (HS7.out.ext hx79)
        have hx09 := hx7.trans hx79
        have hB9 : B ≤ w9.heap.size := Nat.le_trans hB7 hx79.size
        have HB9 := Lib.hid hb9
        obtain ⟨q, hq⟩ : ∃ q, q = w8.heap.size := ⟨_, rfl⟩
        rw [← hq] at HB9 ⊢
        clear HS7 hb9 hg9 hl8 hq hx79
        go_wp2_with (first
          | (refine wpList_load_row_ rfl 46 (.tmp 14) rfl ⟨q, 0, none⟩ rfl (wC y) _ (blk_cells HB9.out) Try.underlying46 rfl (by rw [w_info]; rfl) ?_)
          | (refine wpList_store_blk rfl 46 (.tmp 9) (.tmp 56) rfl rfl g (wC y).toArray rfl rfl _ _ HS9.out.box rfl (by kernel_rfl) (wC_one y) ?_; intro w10 hb10 hg10; have HS10 := Lib.hid (HS9.out.setBox hgB hb10 hg10); have hx10 := hx09.grown_ hg10 (fun j e => by cases e; exact hgw); have hB10 := Nat.le_trans hB9 hg10.size; clear hb10 hg10))
        go_roundw
        case rel => exact ⟨k + 1, _, _, some y, by omega, by go_num, rfl, HLW2, HS10, HQ7, hx10, hB10⟩
        case measure => simp [intOf]; omega
    · obtain rfl : n = k := by omega
      have htk : ls.take n = ls := by rw [← HN.out, List.take_length]
      obtain ⟨M, hM⟩ : ∃ M, M = mrg b (ls.map tabOf) := ⟨_, rfl⟩
      have hq1 := HQ.out
      rw [htk] at hq1
      have hrr := HRR.out
      rw [htk] at hrr
      have hlook : lookW key M = if b then r.filter keepW else r := by rw [hM, look_mrg, ← hrr]
      have hfl : (ls.map tabOf).flatten.length ≤ 65536 := by
        have h1 := flat_lenW (m := 8192) (ls.map tabOf) (fun x hx => by
          obtain ⟨y, hy, rfl⟩ := List.mem_map.1 hx
          exact Nat.le_trans (tabOf_len y) (hq1.2.2 y hy))
        rw [List.length_map, HN.out] at h1
        omega
      have hMl : M.length ≤ 65536 := by have := mrg_len b (ls.map tabOf); rw [← hM] at this; omega
      have hMs : SortedW M := by rw [hM]; exact mrg_sorted b _
      have HMC := Lib.hid (fun (u : World) (rr : W3) (hs : MgSt B g u (.slice At qs.length ct) qs (.slice Ap ps.length cp) ps rr) => show Calls Try.prog 24 #[.bool b, .slice At qs.length ct] u fun e w' => ∃ p, e = .returned (.pointer (some ⟨p, 0, none⟩)) ∧ u.heap.size ≤ p ∧ TabAt u.heap.size w' p M ∧ Ext u w' by
        have h1 := merge_calls b qs At qs.length ct u (by obtain ⟨_, _, e3, _, _, hc⟩ := own_form hs.tabs (by decide); cases e3; exact hc) rfl (fun t ht => (hs.tAt t ht).1.lower (Nat.zero_le _)) (by rw [hq1.1]; omega) (by rw [hql]; omega)
        rw [hq1.1, ← hM] at h1
        exact h1)
      have HRC := Lib.hid (fun (u : World) (rr : W3) (hs : MgSt B g u (.slice At qs.length ct) qs (.slice Ap ps.length cp) ps rr) => show Calls Try.prog 25 #[.bool b, .slice Ap ps.length cp] u fun e w' => ∃ v, e = .returned v ∧ OwnW u.heap.size w' v M ∧ Ext u w' by
        have h1 := rmerge_calls b (ps.map (·.2)) Ap ps.length cp u (hs.wss rfl) (by rw [List.length_map]) (by rw [hpl]; omega) (by rw [hq1.2.1]; omega)
        rw [hq1.2.1, ← hM] at h1
        exact h1)
      obtain ⟨nM, hnM⟩ : ∃ x, M.length = x := ⟨_, rfl⟩
      have hnM6 : nM ≤ 65536 := by omega
      have NM := Lib.hid hnM
      have HMS := Lib.hid hMs
      obtain ⟨ro, hro⟩ : ∃ ro, lookW key M = ro := ⟨_, rfl⟩
      rw [hro] at hlook
      have HRO := Lib.hid hro
      have HNX : Hid (∀ (u : World) (p : Nat), TabAt 0 u p M → ∀ (x : W3), ro.getD zW = x → ∀ is, ro.isSome = is → Calls Try.prog 23 #[.pointer (some ⟨p, 0, none⟩), .string key] u fun e w' => e = .returned (.tuple #[.agg (wC x).toArray, .bool is]) ∧ Ext u w') := Lib.hid (fun u p ht x hx is his => get_is p M key u ht (by omega) hMs ro hro x hx is his)
      rw [hql, hpl] at HMC HRC
      have HS0 := HS.out
      rw [hql, hpl] at HS0
      have HSN := Lib.hid HS0
      rw [hql, hpl]
      clear htk hq1 hrr hM hfl hMl hMs hnM hro HS0 HS HQ HRR HCT hql hpl HL HR
      cases r with
      | none =>
        have hron : ro = none := by rw [hlook]; cases b <;> rfl
        subst hron
        clear hlook
        go_upto_region 24 with (go_at_call 24; (with_reducible refine Calls.mono (HMC.out wr _ HSN.out) ?_); rintro e w7 ⟨m, rfl, hm0, ht7', hx7⟩)
        have ht7 : TabAt 0 w7 m M := ht7'.lower (Nat.zero_le _)
        have HS7 := Lib.hid (HSN.out.ext hx7)
        have hx07 := hx.trans hx7
        have HNX7 := Lib.hid (HNX.out w7 m ht7 zW rfl false rfl)
        clear HMC hm0 ht7' HNX
        go_upto_region 25 with (first
          | (go_at_call 23; (with_reducible refine Calls.mono HNX7.out ?_); rintro e w8 ⟨rfl, hx8⟩; have hl8 := (Ext.refl w8).alloc (.cells #[.string { data := #[] }, .string { data := #[] }, .bool false] 46))
          | (refine wpList_store_blk rfl 46 (.tmp 17) (.tmp 74) rfl rfl w8.heap.size (wC zW).toArray rfl rfl _ _ (Blk.new w8 _ _) rfl (by kernel_rfl) (wC_one zW) ?_; intro w9 hb9 hg9; have hx9 : Ext w8 w9 := hl8.grown_ hg9 (fun j e => by cases e; exact Nat.le_refl _)))
        have hx79 := hx8.trans hx9
        have HS9 := Lib.hid (HS7.out.ext hx79)
        have HT9 := Lib.hid (ht7.ext hx79)
        have HB9 := Lib.hid hb9
        obtain ⟨q, hq⟩ : ∃ q, q = w8.heap.size := ⟨_, rfl⟩
        rw [← hq] at HB9 ⊢
        have hx09 := hx07.trans hx79
        have heq : ∀ u, (Op.equalIn 10000 46 (.agg (wC zW).toArray) (.agg (wC zW).toArray)).run Try.prog u = .ok true u := fun u => by rw [write_equal, deq_self]
        clear HS7 ht7 hb9 hg9 hq hl8 HNX7
        go_wp2_with (first
          | (go_at_call 21; (with_reducible refine Calls.mono (all_tab m M w9 HT9.out nM NM.out (by omega)) ?_); rintro e w10 ⟨A1, c1, rfl, r1, hx10⟩)
          | (go_at_call 25; (with_reducible refine Calls.mono (HRC.out w10 _ (HS9.out.ext hx10)) ?_); rintro e w11 ⟨v2, rfl, ho2, hx11⟩; obtain ⟨A2, c2, rfl, _, _, hc2⟩ := ho2.form; rw [NM.out])
          | (go_at_call 20; (with_reducible refine Calls.mono (rsame_self M A1 A2 nM c1 c2 w11 (r1.ext hx11) (row_of_cells hc2) NM.out (by omega)) ?_); rintro e w12 ⟨rfl, hx12⟩; have hx92 := (hx10.trans hx11).trans hx12; clear r1 hc2 ho2)
          | (refine wpList_load_row_g (g := 11) (d' := 87) rfl rfl rfl 46 (.tmp 17) rfl ⟨q, 0, none⟩ rfl (wC zW) _ (blk_cells (HB9.out.ext hx92)) Try.underlying46 rfl (by rw [w_info]; rfl) ?_)
          | (refine wpList_load_row_g (g := 11) (d' := 87) rfl rfl rfl 46 (.tmp 9) rfl ⟨g, 0, none⟩ rfl (wC zW) _ (blk_cells (HS9.out.ext hx92).box) Try.underlying46 rfl (by rw [w_info]; rfl) ?_))
        go_ret
        exact ⟨rfl, hx09.trans hx92⟩
      | some y =>
        obtain ⟨y0, y1, y2⟩ := y
        have hc2 : wr.cell? ⟨g, 2, none⟩ = some (.bool y2) := by rw [HSN.out.box.cell]; rfl
        cases b with
        | false =>
          have hron : ro = some (y0, y1, y2) := by rw [hlook]; rfl
          subst hron
          clear hlook
          go_upto_region 24 with (go_at_call 24; (with_reducible refine Calls.mono (HMC.out wr _ HSN.out) ?_); rintro e w7 ⟨m, rfl, hm0, ht7', hx7⟩)
          have ht7 : TabAt 0 w7 m M := ht7'.lower (Nat.zero_le _)
          have HS7 := Lib.hid (HSN.out.ext hx7)
          have hx07 := hx.trans hx7
          have HNX7 := Lib.hid (HNX.out w7 m ht7 (y0, y1, y2) rfl true rfl)
          clear HMC hm0 ht7' HNX
          go_upto_region 25 with (first
            | (go_at_call 23; (with_reducible refine Calls.mono HNX7.out ?_); rintro e w8 ⟨rfl, hx8⟩; have hl8 := (Ext.refl w8).alloc (.cells #[.string { data := #[] }, .string { data := #[] }, .bool false] 46))
            | (refine wpList_store_blk rfl 46 (.tmp 17) (.tmp 74) rfl rfl w8.heap.size (wC (y0, y1, y2)).toArray rfl rfl _ _ (Blk.new w8 _ _) rfl (by kernel_rfl) (wC_one (y0, y1, y2)) ?_; intro w9 hb9 hg9; have hx9 : Ext w8 w9 := hl8.grown_ hg9 (fun j e => by cases e; exact Nat.le_refl _)))
          have hx79 := hx8.trans hx9
          have HS9 := Lib.hid (HS7.out.ext hx79)
          have HT9 := Lib.hid (ht7.ext hx79)
          have HB9 := Lib.hid hb9
          obtain ⟨q, hq⟩ : ∃ q, q = w8.heap.size := ⟨_, rfl⟩
          rw [← hq] at HB9 ⊢
          have hx09 := hx07.trans hx79
          have heq : ∀ u, (Op.equalIn 10000 46 (.agg (wC (y0, y1, y2)).toArray) (.agg (wC (y0, y1, y2)).toArray)).run Try.prog u = .ok true u := fun u => by rw [write_equal, deq_self]
          clear HS7 ht7 hb9 hg9 hq hl8 HNX7
          go_wp2_with (first
            | (go_at_call 21; (with_reducible refine Calls.mono (all_tab m M w9 HT9.out nM NM.out (by omega)) ?_); rintro e w10 ⟨A1, c1, rfl, r1, hx10⟩)
            | (go_at_call 25; (with_reducible refine Calls.mono (HRC.out w10 _ (HS9.out.ext hx10)) ?_); rintro e w11 ⟨v2, rfl, ho2, hx11⟩; obtain ⟨A2, c2, rfl, _, _, hc2⟩ := ho2.form; rw [NM.out])
            | (go_at_call 20; (with_reducible refine Calls.mono (rsame_self M A1 A2 nM c1 c2 w11 (r1.ext hx11) (row_of_cells hc2) NM.out (by omega)) ?_); rintro e w12 ⟨rfl, hx12⟩; have hx92 := (hx10.trans hx11).trans hx12; clear r1 hc2 ho2)
            | (refine wpList_load_row_g (g := 11) (d' := 87) rfl rfl rfl 46 (.tmp 17) rfl ⟨q, 0, none⟩ rfl (wC (y0, y1, y2)) _ (blk_cells (HB9.out.ext hx92)) Try.underlying46 rfl (by rw [w_info]; rfl) ?_)
            | (refine wpList_load_row_g (g := 11) (d' := 87) rfl rfl rfl 46 (.tmp 9) rfl ⟨g, 0, none⟩ rfl (wC (y0, y1, y2)) _ (blk_cells (HS9.out.ext hx92).box) Try.underlying46 rfl (by rw [w_info]; rfl) ?_))
          go_ret
          exact ⟨rfl, hx09.trans hx92⟩
        | true =>
          cases y2 with
          | false =>
            have hron : ro = some (y0, y1, false) := by rw [hlook]; rfl
            subst hron
            clear hlook
            go_upto_region 24 with (go_at_call 24; (with_reducible refine Calls.mono (HMC.out wr _ HSN.out) ?_); rintro e w7 ⟨m, rfl, hm0, ht7', hx7⟩)
            have ht7 : TabAt 0 w7 m M := ht7'.lower (Nat.zero_le _)
            have HS7 := Lib.hid (HSN.out.ext hx7)
            have hx07 := hx.trans hx7
            have HNX7 := Lib.hid (HNX.out w7 m ht7 (y0, y1, false) rfl true rfl)
            clear HMC hm0 ht7' HNX
            go_upto_region 25 with (first
              | (go_at_call 23; (with_reducible refine Calls.mono HNX7.out ?_); rintro e w8 ⟨rfl, hx8⟩; have hl8 := (Ext.refl w8).alloc (.cells #[.string { data := #[] }, .string { data := #[] }, .bool false] 46))
              | (refine wpList_store_blk rfl 46 (.tmp 17) (.tmp 74) rfl rfl w8.heap.size (wC (y0, y1, false)).toArray rfl rfl _ _ (Blk.new w8 _ _) rfl (by kernel_rfl) (wC_one (y0, y1, false)) ?_; intro w9 hb9 hg9; have hx9 : Ext w8 w9 := hl8.grown_ hg9 (fun j e => by cases e; exact Nat.le_refl _)))
            have hx79 := hx8.trans hx9
            have HS9 := Lib.hid (HS7.out.ext hx79)
            have HT9 := Lib.hid (ht7.ext hx79)
            have HB9 := Lib.hid hb9
            obtain ⟨q, hq⟩ : ∃ q, q = w8.heap.size := ⟨_, rfl⟩
            rw [← hq] at HB9 ⊢
            have hx09 := hx07.trans hx79
            have heq : ∀ u, (Op.equalIn 10000 46 (.agg (wC (y0, y1, false)).toArray) (.agg (wC (y0, y1, false)).toArray)).run Try.prog u = .ok true u := fun u => by rw [write_equal, deq_self]
            clear HS7 ht7 hb9 hg9 hq hl8 HNX7
            go_wp2_with (first
              | (go_at_call 21; (with_reducible refine Calls.mono (all_tab m M w9 HT9.out nM NM.out (by omega)) ?_); rintro e w10 ⟨A1, c1, rfl, r1, hx10⟩)
              | (go_at_call 25; (with_reducible refine Calls.mono (HRC.out w10 _ (HS9.out.ext hx10)) ?_); rintro e w11 ⟨v2, rfl, ho2, hx11⟩; obtain ⟨A2, c2, rfl, _, _, hc2⟩ := ho2.form; rw [NM.out])
              | (go_at_call 20; (with_reducible refine Calls.mono (rsame_self M A1 A2 nM c1 c2 w11 (r1.ext hx11) (row_of_cells hc2) NM.out (by omega)) ?_); rintro e w12 ⟨rfl, hx12⟩; have hx92 := (hx10.trans hx11).trans hx12; clear r1 hc2 ho2)
              | (refine wpList_load_row_g (g := 11) (d' := 87) rfl rfl rfl 46 (.tmp 17) rfl ⟨q, 0, none⟩ rfl (wC (y0, y1, false)) _ (blk_cells (HB9.out.ext hx92)) Try.underlying46 rfl (by rw [w_info]; rfl) ?_)
              | (refine wpList_load_row_g (g := 11) (d' := 87) rfl rfl rfl 46 (.tmp 9) rfl ⟨g, 0, none⟩ rfl (wC (y0, y1, false)) _ (blk_cells (HS9.out.ext hx92).box) Try.underlying46 rfl (by rw [w_info]; rfl) ?_))
            go_ret
            exact ⟨rfl, hx09.trans hx92⟩
          | true =>
            have hron : ro = none := by rw [hlook]; rfl
            subst hron
            clear hlook
            go_upto_region 23 with (refine wpList_store_blk rfl 46 (.tmp 9) (.tmp 66) rfl rfl g (wC zW).toArray rfl rfl _ _ HSN.out.box rfl (by kernel_rfl) (wC_one zW) ?_; intro w3 hb3 hg3; have HS3 := Lib.hid (HSN.out.setBox hgB hb3 hg3); have hx3 := hx.grown_ hg3 (fun j e => by cases e; exact hgw); clear hb3 hg3)
            go_upto_region 24 with (go_at_call 24; (with_reducible refine Calls.mono (HMC.out w3 _ HS3.out) ?_); rintro e w7 ⟨m, rfl, hm0, ht7', hx7⟩)
            have ht7 : TabAt 0 w7 m M := ht7'.lower (Nat.zero_le _)
            have HS7 := Lib.hid (HS3.out.ext hx7)
            have hx07 := hx3.trans hx7
            have HNX7 := Lib.hid (HNX.out w7 m ht7 zW rfl false rfl)
            clear HMC hm0 ht7' HNX
            go_upto_region 25 with (first
              | (go_at_call 23; (with_reducible refine Calls.mono HNX7.out ?_); rintro e w8 ⟨rfl, hx8⟩; have hl8 := (Ext.refl w8).alloc (.cells #[.string { data := #[] }, .string { data := #[] }, .bool false] 46))
              | (refine wpList_store_blk rfl 46 (.tmp 17) (.tmp 74) rfl rfl w8.heap.size (wC zW).toArray rfl rfl _ _ (Blk.new w8 _ _) rfl (by kernel_rfl) (wC_one zW) ?_; intro w9 hb9 hg9; have hx9 : Ext w8 w9 := hl8.grown_ hg9 (fun j e => by cases e; exact Nat.le_refl _)))
            have hx79 := hx8.trans hx9
            have HS9 := Lib.hid (HS7.out.ext hx79)
            have HT9 := Lib.hid (ht7.ext hx79)
            have HB9 := Lib.hid hb9
            obtain ⟨q, hq⟩ : ∃ q, q = w8.heap.size := ⟨_, rfl⟩
            rw [← hq] at HB9 ⊢
            have hx09 := hx07.trans hx79
            have heq : ∀ u, (Op.equalIn 10000 46 (.agg (wC zW).toArray) (.agg (wC zW).toArray)).run Try.prog u = .ok true u := fun u => by rw [write_equal, deq_self]
            clear HS7 ht7 hb9 hg9 hq hl8 HNX7
            go_wp2_with (first
              | (go_at_call 21; (with_reducible refine Calls.mono (all_tab m M w9 HT9.out nM NM.out (by omega)) ?_); rintro e w10 ⟨A1, c1, rfl, r1, hx10⟩)
              | (go_at_call 25; (with_reducible refine Calls.mono (HRC.out w10 _ (HS9.out.ext hx10)) ?_); rintro e w11 ⟨v2, rfl, ho2, hx11⟩; obtain ⟨A2, c2, rfl, _, _, hc2⟩ := ho2.form; rw [NM.out])
              | (go_at_call 20; (with_reducible refine Calls.mono (rsame_self M A1 A2 nM c1 c2 w11 (r1.ext hx11) (row_of_cells hc2) NM.out (by omega)) ?_); rintro e w12 ⟨rfl, hx12⟩; have hx92 := (hx10.trans hx11).trans hx12; clear r1 hc2 ho2)
              | (refine wpList_load_row_g (g := 11) (d' := 87) rfl rfl rfl 46 (.tmp 17) rfl ⟨q, 0, none⟩ rfl (wC zW) _ (blk_cells (HB9.out.ext hx92)) Try.underlying46 rfl (by rw [w_info]; rfl) ?_)
              | (refine wpList_load_row_g (g := 11) (d' := 87) rfl rfl rfl 46 (.tmp 9) rfl ⟨g, 0, none⟩ rfl (wC zW) _ (blk_cells (HS9.out.ext hx92).box) Try.underlying46 rfl (by rw [w_info]; rfl) ?_))
            go_ret
            exact ⟨rfl, hx09.trans hx92⟩
end Go.Proofs.Ytdhbnfhmcnacoaa
