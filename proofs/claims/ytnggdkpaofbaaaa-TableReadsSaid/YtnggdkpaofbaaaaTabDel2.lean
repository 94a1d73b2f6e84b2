/- slices.DeleteFunc on a row of writes of the call's own: the walk. -/
import Derived.Test.YtnggdkpaofbaaaaTabDel
namespace Go.Proofs.Ytnggdkpaofbaaaa
open Go.RowKit Go.Shelf
set_option linter.unusedVariables false

set_option maxRecDepth 50000 in
theorem gone_calls (x : W3) (w : World) : Calls Try.prog 66 #[.agg (wC x).toArray] w fun e w' => e = .returned (.bool x.2.2) ∧ Ext w w' := by
  obtain ⟨x0, x1, x2⟩ := x
  unfold wC
  go_enter Try.func66, Try.ntmps66
  go_wp2
  go_ret
  exact ⟨rfl, (Ext.refl _).alloc _⟩
theorem idx_spec (d : W3) : ∀ (l : List W3) (i : Nat), (Lib.idxByFrom (fun _ y : W3 => y.2.2) d l i = -1 ∧ ∀ x ∈ l, x.2.2 = false) ∨ ∃ k y, Lib.idxByFrom (fun _ y : W3 => y.2.2) d l i = ((i + k : Nat) : Int) ∧ l[k]? = some y ∧ y.2.2 = true ∧ ∀ x ∈ l.take k, x.2.2 = false
  | [], i => .inl ⟨rfl, fun x h => by cases h⟩
  | a :: l, i => by
    cases ha : a.2.2 with
    | true => exact .inr ⟨0, a, by simp [Lib.idxByFrom, ha], rfl, ha, fun x h => by simp at h⟩
    | false =>
      rcases idx_spec d l (i + 1) with ⟨h1, h2⟩ | ⟨k, y, h1, h2, h3, h4⟩
      · refine .inl ⟨by simp [Lib.idxByFrom, ha, h1], fun x hx => ?_⟩
        rcases List.mem_cons.1 hx with rfl | hx
        · exact ha
        · exact h2 x hx
      · refine .inr ⟨k + 1, y, by simp only [Lib.idxByFrom, ha, Bool.false_eq_true, if_false, h1]; congr 1; omega, h2, h3, fun x hx => ?_⟩
        rw [List.take_succ_cons] at hx
        rcases List.mem_cons.1 hx with rfl | hx
        · exact ha
        · exact h4 x hx
set_option maxRecDepth 50000 in
theorem idxNil_calls (c : Nat) (f : Value) (w : World) : Calls Try.prog 86 #[.slice none 0 c, f] w fun e w' => e = .returned (.int .i64 (-1)) ∧ Ext w w' := by
  go_enter Try.func86, Try.ntmps86
  go_upto_region 2 with (fail)
  go_loopw [8] (fun i wr => i = .int .i64 0 ∧ Ext w wr) (fun _ _ => 0)
  case atStart => exact ⟨rfl, Ext.refl _⟩
  case round =>
    obtain ⟨rfl, hx⟩ := hrel
    go_wp2
    go_ret
    exact ⟨rfl, hx⟩
theorem idx_calls (B : Nat) (w : World) (A : Option Addr) (n c : Nat) (l : List W3) (h : w.ownsRow B 46 3 (.slice A n c) n (l.map wC).flatten) (hn : l.length = n) (hl : n ≤ 1000000) :
    Calls Try.prog 86 #[.slice A n c, .func (.func 66) #[] #[]] w fun e w' => ∃ z, e = .returned (.int .i64 z) ∧ Ext w w' ∧ ((z = -1 ∧ ∀ x ∈ l, x.2.2 = false) ∨ ∃ k : Nat, z = (k : Int) ∧ k < n ∧ (∀ x ∈ l.take k, x.2.2 = false) ∧ ∃ y, l[k]? = some y ∧ y.2.2 = true) := by
  have hspec := idx_spec default l 0
  have key : ∀ z, z = Lib.idxByFrom (fun _ y : W3 => y.2.2) default l 0 → ((z = -1 ∧ ∀ x ∈ l, x.2.2 = false) ∨ ∃ k : Nat, z = (k : Int) ∧ k < n ∧ (∀ x ∈ l.take k, x.2.2 = false) ∧ ∃ y, l[k]? = some y ∧ y.2.2 = true) := by
    intro z hz
    rcases hspec with ⟨h1, h2⟩ | ⟨k, y, h1, h2, h3, h4⟩
    · exact .inl ⟨hz.trans h1, h2⟩
    · refine .inr ⟨k, by rw [hz, h1, Nat.zero_add], ?_, h4, y, h2, h3⟩
      have := (List.getElem?_eq_some_iff.1 h2).1
      omega
  rcases h.2 with ⟨e, h0⟩ | ⟨g, cap, cur, e, hb, hgg, _⟩
  · simp only [Value.slice.injEq] at e
    obtain ⟨rfl, rfl, rfl⟩ := e
    have hl0 : l = [] := List.eq_nil_of_length_eq_zero hn
    subst hl0
    exact (idxNil_calls 0 _ w).mono fun e w' ⟨h1, h2⟩ => ⟨-1, h1, h2, key (-1) rfl⟩
  · simp only [Value.slice.injEq] at e
    obtain ⟨rfl, _, rfl⟩ := e
    have hg : g < w.heap.size := (Array.getElem?_eq_some_iff.1 hgg).1
    obtain ⟨_, _, e3, _, _, hcell⟩ := own_form h (by decide)
    cases e3
    have hrow := row_of_cells hcell
    have eg : ∀ args w, (callFunc 66 args).run Try.prog w = .ok (.enter 66 args) w := enters_of Try.func66 (by kernel_rfl) rfl
    have hcon := AnyQ.slices_IndexFunc (P := Try.prog) Try.indexW 3 Try.isAgg46 Try.sizeOf46 wC wC_len (fun x : W3 => x.2.2) 66 #[] eg g 0 n c l w (fun W x hW => (gone_calls x W).mono fun e w' ⟨h1, h2⟩ => ⟨h1, (show Ext w W from hW).trans h2⟩) (by rw [hn]; exact Nat.le_refl _) (by omega) hg (fun j hj i v hv => by
      obtain ⟨a, ha, hc⟩ := hrow.get (i := j) (by simpa using hj)
      cases ha
      rw [List.getElem_map, ← getElem!_pos l j hj] at hc
      have := hc i v hv
      rw [add_new, Nat.zero_add] at *
      unfold Addr.add at this
      split at this
      · rename_i h0; subst h0; exact this
      · exact this)
    refine Calls.mono hcon fun e w' ⟨h1, h2⟩ => ⟨_, h1, h2, key _ ?_⟩
    unfold Lib.idxBy
    rw [← hn, List.take_length]
theorem wpList_store_w {ops : Array Oper} {rest : List Oper} {o : Oper} {a : Act} {w : World} {Q : Exit → Act → World → Prop} (hgd : o.guard = none) (x y : Operand) (ho : o.op = .store 46 x y) (hod : o.dst = none) {B g n c i : Nat} {l : List W3} (h : w.ownsRow B 46 3 (.slice (some ⟨g, 0, none⟩) n c) n (l.map wC).flatten) (hn : l.length = n) (hi : i < n) (p : W3) (hx : a.eval x = .pointer (some ⟨g, i * 3, none⟩)) (hy : a.eval y = .agg (wC p).toArray)
    (hk : ∀ w', w'.ownsRow B 46 3 (.slice (some ⟨g, 0, none⟩) n c) n ((l.set i p).map wC).flatten → w.grownBy w' (some g) → wpList Try.prog ops Q rest a w') : wpList Try.prog ops Q (o :: rest) a w := by
  refine wpList_plain hgd fun _ hK => ?_
  obtain ⟨w', hrun, h1, h2⟩ := own_set h hn hi p
  unfold Oper.wp execOp
  simp only [ho, hx, hy, Sem.run_bind, hrun, Result.andThen_ok, Sem.run_pure]
  have := hK _ _ (hk w' h1 h2)
  simpa [Oper.upon, hod, Act.put] using this
theorem wpList_slice_w {d : Nat} {ops : Array Oper} {rest : List Oper} {o : Oper} {a : Act} {w : World} {Q : Exit → Act → World → Prop} (hgd : o.guard = none) (x y : Operand) (ho : o.op = .slice 22 x (some y) none none) (hod : o.dst = some d)
    (A : Option Addr) (n c k : Nat) (kk : IntKind) (hx : a.eval x = .slice A n c) (hy : a.eval y = .int kk k) (hk : k ≤ n) (hc : n ≤ c)
    (hK : ∀ A', A' = (if c = k then A else A.map (·.add (k * 3))) → wpList Try.prog ops Q rest (a.put (some d) (.slice A' (n - k) (c - k))) w) : wpList Try.prog ops Q (o :: rest) a w := by
  refine wpList_plain hgd fun _ hk' => ?_
  have hr := run_slice_from (P := Try.prog) (w := w) 22 46 Try.underlying22 3 (by rw [w_info]) A n c k hk hc kk
  have := hk' _ _ (hK _ rfl)
  rw [← hod] at this
  unfold Oper.wp execOp
  simp only [ho, hx, hy, Option.map_some, Option.map_none, Sem.run_bind, hr, Result.andThen_ok, Sem.run_pure]
  exact this
theorem wpList_clear_w {ops : Array Oper} {rest : List Oper} {o : Oper} {a : Act} {w : World} {Q : Exit → Act → World → Prop} (hgd : o.guard = none) (x : Operand) (ho : o.op = .call { callee := .builtin .clear, args := #[x], argTypes := #[22] }) (hod : o.dst = none)
    {B g n c i : Nat} {l : List W3} (h : w.ownsRow B 46 3 (.slice (some ⟨g, 0, none⟩) n c) n (l.map wC).flatten) (hn : l.length = n) (hi : i ≤ n) (A : Option Addr) (hA : A = (if c = i then (some ⟨g, 0, none⟩ : Option Addr) else (some ⟨g, 0, none⟩ : Option Addr).map (·.add (i * 3)))) (hx : a.eval x = .slice A (n - i) (c - i))
    (hK : ∀ w', w'.ownsRow B 46 3 (.slice (some ⟨g, 0, none⟩) i c) i ((l.take i).map wC).flatten → w.grownBy w' (some g) → wpList Try.prog ops Q rest a w') : wpList Try.prog ops Q (o :: rest) a w := by
  refine wpList_plain hgd fun _ hk' => ?_
  obtain ⟨w', hrun, h1, h2⟩ := own_clear h hn hi o.type
  subst hA
  have := hk' _ _ (hK _ h1 h2)
  unfold Oper.wp execOp
  simp only [ho, resolve, invoke, builtin, Sem.run_bind, Sem.run_pure, Result.andThen_ok, List.map_toArray, List.map_cons, List.map_nil, hx, hrun]
  simpa [Oper.upon, hod, Act.put] using this
set_option maxRecDepth 50000 in
set_option maxHeartbeats 8000000 in
/-- slices.DeleteFunc of what is gone. -/
theorem del_calls (B : Nat) (w : World) (A : Option Addr) (n c : Nat) (l : List W3) (h : w.ownsRow B 46 3 (.slice A n c) n (l.map wC).flatten) (hn : l.length = n) (hl : n ≤ 1000000) :
    Calls Try.prog 65 #[.slice A n c, .func (.func 66) #[] #[]] w fun e w' => ∃ m, e = .returned (.slice A m c) ∧ (l.filter keepW).length = m ∧ w'.ownsRow B 46 3 (.slice A m c) m ((l.filter keepW).map wC).flatten ∧ w.grownBy w' (Value.slice A n c).ownBlock := by
  have hidx := idx_calls B w A n c l h hn hl
  have HIDX := Lib.hid hidx
  have HH := Lib.hid h
  have HN := Lib.hid hn
  clear hidx h hn
  go_enter Try.func65, Try.ntmps65
  go_upto_region 2 with (first
    | (go_at_call 86; (with_reducible refine HIDX.out.mono ?_); rintro e w1 ⟨z, rfl, hx1, hz⟩))
  have hg1 : w.grownBy w1 (Value.slice A n c).ownBlock := ⟨hx1.os, hx1.tape, hx1.output, hx1.size, fun j hj _ => hx1.block j hj⟩
  have H1 := Lib.hid (own_ext HH.out hx1)
  rcases hz with ⟨rfl, hall⟩ | ⟨k, rfl, hkn, htk, y, hky, hyg⟩
  · have hf : l.filter keepW = l := List.filter_eq_self.2 (fun x hx => by unfold keepW; rw [hall x hx]; rfl)
    have HF := Lib.hid hf
    clear hall hf
    go_wp2
    go_ret
    refine ⟨n, rfl, ?_, ?_, hg1⟩
    · rw [HF.out]; exact HN.out
    · rw [HF.out]; exact H1.out
  · obtain ⟨g, rfl⟩ : ∃ g, A = some ⟨g, 0, none⟩ := by
      rcases HH.out.2 with ⟨e, _⟩ | ⟨g, cap, cur, e, _⟩
      · simp only [Value.slice.injEq] at e
        omega
      · simp only [Value.slice.injEq] at e
        exact ⟨g, e.1⟩
    have hg1' : w.grownBy w1 (some g) := hg1
    have hk1 : ((k : Int) == -1) = false := by rw [beq_eq_false_iff_ne]; omega
    have hcn : n ≤ c := by obtain ⟨_, _, e3, h3, _⟩ := own_form H1.out (by decide); cases e3; exact h3
    have hti : l.take k = (l.take (k + 1)).filter keepW := by
      have e1 : (l.take k).filter keepW = l.take k := List.filter_eq_self.2 (fun x hx => by unfold keepW; rw [htk x hx]; rfl)
      have e2 : keepW y = false := by unfold keepW; rw [hyg]; rfl
      rw [List.take_add_one, hky, List.filter_append, e1]
      simp [e2]
    have HTI := Lib.hid hti
    have HCN := Lib.hid hcn
    clear hg1 htk hti hky hyg hcn
    go_upto_region 5 with (fail)
    clear hk1
    go_loopw [6, 5] (fun jv iv wr => ∃ (j i : Nat) (cur : List W3), i < j ∧ j ≤ n ∧ jv = .int .i64 j ∧ iv = .int .i64 i ∧ Hid (cur.length = n) ∧ Hid (cur.take i = (l.take j).filter keepW) ∧ Hid (cur.drop j = l.drop j) ∧ Hid (wr.ownsRow B 46 3 (.slice (some ⟨g, 0, none⟩) n c) n (cur.map wC).flatten) ∧ Hid (w.grownBy wr (some g))) (fun jv _ _ => n - (intOf jv).toNat)
    case atStart => exact ⟨k + 1, k, l, by omega, by omega, rfl, rfl, HN, HTI, Lib.hid rfl, H1, Lib.hid hg1'⟩
    case round =>
      clear HTI H1 hx1 hg1'
      obtain ⟨j, i, cur, hij, hjn, rfl, rfl, HL, HT, HD, HO, HG⟩ := hrel
      by_cases hlt : j < n
      · obtain ⟨x, hx⟩ : ∃ x, cur[j]? = some x := ⟨_, List.getElem?_eq_getElem (by rw [HL.out]; exact hlt)⟩
        have hlx : l[j]? = some x := by
          have h1 : (cur.drop j)[0]? = some x := by rw [List.getElem?_drop, Nat.add_zero]; exact hx
          rw [HD.out, List.getElem?_drop, Nat.add_zero] at h1
          exact h1
        have hcell : Cells wr (some ⟨g, 0, none⟩) (cur.map wC).flatten := by obtain ⟨_, _, e3, _, _, h⟩ := own_form HO.out (by decide); cases e3; exact h
        obtain ⟨ad, had, hlc⟩ := (row_of_cells hcell).get (i := j) (by rw [List.length_map, HL.out]; exact hlt)
        cases had
        rw [List.getElem_map, (List.getElem?_eq_some_iff.1 hx).2] at hlc
        have hd1 : cur.drop (j + 1) = l.drop (j + 1) := by rw [← List.drop_drop, ← List.drop_drop, HD.out]
        have ht1 : (l.take (j + 1)).filter keepW = (l.take j).filter keepW ++ [x].filter keepW := by rw [List.take_add_one, hlx, List.filter_append]; rfl
        have hlc' : ∀ (m : Nat) (v : Value), (wC x)[m]? = some v → wr.cell? ((⟨g, j * 3, none⟩ : Addr).add m) = some v := fun m v hm => by
          have h1 := hlc m v hm
          rw [add_new] at h1
          exact h1
        have HD1 := Lib.hid hd1
        have HT1 := Lib.hid ht1
        clear hcell hx hlx hd1 ht1 HD
        have hp0 : (0 : Int) ≤ (j : Int) := by omega
        have hp1 : (j : Int) < (n : Int) := by omega
        have hp2 : (0 : Int) ≤ (i : Int) := by omega
        have hp3 : (i : Int) < (n : Int) := by omega
        go_upto_region 8 with (first
          | (refine wpList_load_row_ rfl 46 (.tmp 24) rfl ⟨g, j * 3, none⟩ rfl (wC x) _ hlc' Try.underlying46 rfl (by rw [w_info]; rfl) ?_)
          | (refine wpList_store_blk rfl 46 (.tmp 7) (.tmp 25) rfl rfl wr.heap.size (wC x).toArray rfl rfl _ _ (Blk.new wr _ _) rfl (by kernel_rfl) (wC_one x) ?_; intro w3 hb3 hg3; have hx3 : Ext wr w3 := ((Ext.refl _).alloc _).grown_ hg3 (by simp)))
        clear hlc hlc'
        have HO3 := Lib.hid (own_ext HO.out hx3)
        have hgr3 : wr.grownBy w3 (some g) := ⟨hx3.os, hx3.tape, hx3.output, hx3.size, fun j hj _ => hx3.block j hj⟩
        have HG3 := Lib.hid (HG.out.trans hgr3)
        clear hgr3 hg3 HO HG
        obtain ⟨q, hq⟩ : ∃ q, q = wr.heap.size := ⟨_, rfl⟩
        rw [← hq] at hb3 ⊢
        clear hq hx3
        have HB3 := Lib.hid hb3
        clear hb3
        have hgone := gone_calls x w3
        cases hg2 : x.2.2 with
        | true =>
          have hk : keepW x = false := by unfold keepW; rw [hg2]; rfl
          have ht2 : (l.take (j + 1)).filter keepW = (l.take j).filter keepW := by rw [HT1.out]; simp [hk]
          have HT2 := Lib.hid (HT.out.trans ht2.symm)
          rw [hg2] at hgone
          have HGO := Lib.hid hgone
          clear ht2 hk HT HT1 hgone hg2
          go_wp2_with (first
            | (refine wpList_load_row_ rfl 46 (.tmp 7) rfl ⟨q, 0, none⟩ rfl (wC x) _ (blk_cells HB3.out) Try.underlying46 rfl (by rw [w_info]; rfl) ?_)
            | (go_at_call 66; (with_reducible refine HGO.out.mono ?_); rintro e w4 ⟨rfl, hx4⟩))
          have HO4 := Lib.hid (own_ext HO3.out hx4)
          have hgr4 : w3.grownBy w4 (some g) := ⟨hx4.os, hx4.tape, hx4.output, hx4.size, fun j hj _ => hx4.block j hj⟩
          have HG4 := Lib.hid (HG3.out.trans hgr4)
          go_roundw
          case rel => exact ⟨j + 1, i, cur, by omega, by omega, by go_num, rfl, HL, HT2, HD1, HO4, HG4⟩
          case measure => simp [intOf]; omega
        | false =>
          have hk : keepW x = true := by unfold keepW; rw [hg2]; rfl
          have hi2 : i < n := by omega
          have ht2 : (cur.set i x).take (i + 1) = (l.take (j + 1)).filter keepW := by
            rw [HT1.out, ← HT.out, List.filter_cons, hk]
            have hli : i < cur.length := by rw [HL.out]; exact hi2
            rw [List.take_add_one, List.getElem?_set_self hli, List.take_set_of_le (Nat.le_refl _)]
            rfl
          have hd2 : (cur.set i x).drop (j + 1) = l.drop (j + 1) := by rw [List.drop_set_of_lt (by omega)]; exact HD1.out
          have hl2 : (cur.set i x).length = n := by rw [List.length_set]; exact HL.out
          have HT2 := Lib.hid ht2
          have HD2 := Lib.hid hd2
          have HL2 := Lib.hid hl2
          rw [hg2] at hgone
          have HGO := Lib.hid hgone
          clear ht2 hd2 hl2 hk HT HT1 HD1 hgone hg2
          go_upto_region 9 with (first
            | (refine wpList_load_row_ rfl 46 (.tmp 7) rfl ⟨q, 0, none⟩ rfl (wC x) _ (blk_cells HB3.out) Try.underlying46 rfl (by rw [w_info]; rfl) ?_)
            | (go_at_call 66; (with_reducible refine HGO.out.mono ?_); rintro e w4 ⟨rfl, hx4⟩))
          have HO4 := Lib.hid (own_ext HO3.out hx4)
          have hgr4 : w3.grownBy w4 (some g) := ⟨hx4.os, hx4.tape, hx4.output, hx4.size, fun j hj _ => hx4.block j hj⟩
          have HG4 := Lib.hid (HG3.out.trans hgr4)
          have HB4 := Lib.hid (HB3.out.ext hx4)
          clear hgr4 HO3 HG3 HB3 hx4
          go_wp2_with (first
            | (refine wpList_load_row_ rfl 46 (.tmp 7) rfl ⟨q, 0, none⟩ rfl (wC x) _ (blk_cells HB4.out) Try.underlying46 rfl (by rw [w_info]; rfl) ?_)
            | (refine wpList_store_w rfl (.tmp 33) (.tmp 32) rfl rfl HO4.out HL.out hi2 x rfl rfl ?_; intro w5 ho5 hg5; have HO5 := Lib.hid ho5; have HG5 := Lib.hid (HG4.out.trans hg5); clear ho5 hg5))
          go_roundw
          case rel => exact ⟨j + 1, i + 1, cur.set i x, by omega, by omega, by go_num, by go_num, HL2, HT2, HD2, HO5, HG5⟩
          case measure => simp [intOf]; omega
      · obtain rfl : n = j := by omega
        have hi2 : i ≤ n := by omega
        have hT := HT.out
        rw [← HN.out, List.take_length] at hT
        have HT2 := Lib.hid hT
        have hsl := HCN.out
        have hic : i ≤ c := by omega
        have hlf : ((l.filter keepW)).length = i := by rw [← HT2.out, List.length_take, HL.out]; omega
        have HLF := Lib.hid hlf
        clear hT hlf
        go_wp2_with (first
          | (refine wpList_slice_w rfl (.tmp 36) (.tmp 37) rfl rfl (some ⟨g, 0, none⟩) n c i .i64 rfl rfl hi2 hsl ?_; intro A9 hA9)
          | (refine wpList_clear_w rfl (.tmp 38) rfl rfl HO.out HL.out hi2 A9 hA9 rfl ?_; intro w9 ho9 hg9; have HO9 := Lib.hid ho9; clear ho9))
        go_ret
        refine ⟨i, rfl, HLF.out, ?_, HG.out.trans hg9⟩
        rw [← HT2.out]
        exact HO9.out
end Go.Proofs.Ytnggdkpaofbaaaa
