/- The walk of object.PutTree. Printed by wip/mkobjput.py. -/
import Derived.Test.YtcnhbodemabbdaaDoorQ31
import Derived.Test.YtcnhbodemabbdaaDoorQ26
import Derived.Test.YtcnhbodemabbdaaDoorQ32
import Derived.Test.YtcnhbodemabbdaaDoorQ30
import Derived.Test.YtcnhbodemabbdaaDoorQ24
namespace Go.Proofs.YtcnhbodemabbdaaDoor
open Go.RowKit
set_option linter.unusedVariables false

theorem f_pair0 (w : World) (p : Addr) : (Instr.fieldAt 65 (.pointer (some p)) 0).run Tryd.prog w = .ok (.pointer (some p)) w := by go_simp
theorem f_pair1 (w : World) (p : Addr) : (Instr.fieldAt 65 (.pointer (some p)) 1).run Tryd.prog w = .ok (.pointer (some (p.add 1))) w := by go_simp
theorem blo_len (s : ByteArray) : (blo s).length = s.size := str_len s
theorem tr_parts {t : Tr} (h : t.good = true) : t.pairs.length ≤ 4 ∧ t.kids.length ≤ 3 ∧ (t.pairs.length = 0 ∨ t.kids.length = 0) ∧ t.kids.length ≠ 1 ∧ (∀ i < t.pairs.length, prOk t.pairs i = true) ∧ (∀ i < t.kids.length, kdOk t.kids i = true) := by
  unfold Tr.good Tr.shape at h
  simp only [Bool.and_eq_true, decide_eq_true_eq, Bool.not_eq_true', Bool.and_eq_false_iff, decide_eq_false_iff_not, beq_eq_false_iff_ne, List.all_eq_true, List.mem_range] at h
  obtain ⟨⟨h1, h2, h3, h4⟩, h5, h6⟩ := h
  exact ⟨h1, h2, by omega, h4, h5, h6⟩
theorem pr_small {t : Tr} (h : t.good = true) {i : Nat} (hi : i < t.pairs.length) : t.pairs[i].1.size ≤ 16 ∧ t.pairs[i].2.size ≤ 16 := by
  have := (tr_parts h).2.2.2.2.1 i hi
  unfold prOk at this
  simp only [prAt_get hi, Bool.and_eq_true, decide_eq_true_eq] at this
  exact ⟨this.1, this.2.1⟩
theorem kd_small {t : Tr} (h : t.good = true) {i : Nat} (hi : i < t.kids.length) : t.kids[i].1.size ≤ 16 ∧ idGood t.kids[i].2 = true := by
  have := (tr_parts h).2.2.2.2.2 i hi
  unfold kdOk at this
  simp only [kdAt_get hi, Bool.and_eq_true, decide_eq_true_eq] at this
  exact ⟨this.1, this.2.1⟩
theorem textB_small {s : List UInt8} (h : s.length ≤ 32) : (textB s).length = 1 + s.length := by
  unfold textB
  rw [uintB_lt (by omega)]
  simp
  omega
/-- The first k pairs' bytes. -/
def prsB (t : Tr) (k : Nat) : List UInt8 := [1, UInt8.ofNat t.pairs.length] ++ (t.pairs.take k).flatMap prB
def kdsB (t : Tr) (k : Nat) : List UInt8 := [2, UInt8.ofNat t.kids.length] ++ (t.kids.take k).flatMap kdB
theorem prsB_succ (t : Tr) {k : Nat} (h : k < t.pairs.length) : prsB t (k + 1) = prsB t k ++ textB (blo t.pairs[k].1) ++ textB (blo t.pairs[k].2) := by
  unfold prsB
  rw [List.take_succ_eq_append_getElem h, List.flatMap_append]
  simp [prB]
theorem kdsB_succ (t : Tr) {k : Nat} (h : k < t.kids.length) : kdsB t (k + 1) = kdsB t k ++ textB (blo t.kids[k].1) ++ idText t.kids[k].2 := by
  unfold kdsB
  rw [List.take_succ_eq_append_getElem h, List.flatMap_append]
  simp [kdB]
theorem prsB_len {t : Tr} (h : t.good = true) : ∀ k ≤ t.pairs.length, (prsB t k).length ≤ 2 + 34 * k := by
  intro k
  induction k with
  | zero => intro _; simp [prsB]
  | succ k ih =>
    intro hk
    have h1 := pr_small h (i := k) hk
    have h2 := ih (by omega)
    rw [prsB_succ t hk, List.length_append, List.length_append, textB_small (by rw [blo_len]; omega), textB_small (by rw [blo_len]; omega), blo_len, blo_len]
    omega
theorem kdsB_len {t : Tr} (h : t.good = true) (hl : ∀ k ∈ t.kids, k.2.length = 33) : ∀ k ≤ t.kids.length, (kdsB t k).length ≤ 2 + 50 * k := by
  intro k
  induction k with
  | zero => intro _; simp [kdsB]
  | succ k ih =>
    intro hk
    have h1 := kd_small h (i := k) hk
    have h2 := ih (by omega)
    have h3 := idText_len (hl _ (List.getElem_mem hk))
    rw [kdsB_succ t hk, List.length_append, List.length_append, textB_small (by rw [blo_len]; omega), blo_len]
    omega
theorem two_u8 (a b : Nat) (ha : a < 256) (hb : b < 256) : bv [UInt8.ofNat a, UInt8.ofNat b] = [.int .u8 (a : Int), .int .u8 (b : Int)] := by
  simp only [bv, List.map_cons, List.map_nil, ofNat_small ha, ofNat_small hb]

set_option maxRecDepth 100000 in
set_option maxHeartbeats 8000000 in
theorem putTree_bad (t : Tr) (pa ka : Option Addr) (P K pc kc : Nat) (w : World) (h : TrAt w t pa ka P K pc kc) (hg : t.good = false) :
    Calls Tryd.prog 52 #[tra pa P pc ka K kc] w fun e w' => (∃ v, e = .returned (.tuple #[v, .int .i64 1]) ∧ Own w.heap.size w' v []) ∧ Ext w w' := by
  have Hh := Lib.hid h
  clear h
  go_enter Tryd.func52, Tryd.ntmps52
  have hbox : Blk (w.alloc (.cells #[.slice pa P pc, .slice ka K kc] 73)) w.heap.size 73 #[.slice pa P pc, .slice ka K kc] := Blk.new w _ _
  have hx0 : Ext w (w.alloc (.cells #[.slice pa P pc, .slice ka K kc] 73)) := (Ext.refl _).alloc _
  have Hbox := Lib.hid hbox
  obtain ⟨c0, c1⟩ := tree_cells hbox
  clear hbox
  go_wp2_with (go_at_call 83; ((with_reducible refine (goodTree_calls t pa ka P K pc kc _ (Hh.out.ext hx0)).mono ?_); rintro e w1 ⟨rfl, hx1⟩; rw [hg]; clear c0 c1; obtain ⟨c0, c1⟩ := tree_cells (Hbox.out.ext hx1); have hx01 := hx0.trans hx1; have d0 := fun (o : Obj) => ((Ext.refl w1).alloc o).cell c0; have d1 := fun (o : Obj) => ((Ext.refl w1).alloc o).cell c1))
  go_ret2
  exact ⟨⟨_, rfl, Own.nil _ _⟩, hx01⟩

set_option maxRecDepth 100000 in
set_option maxHeartbeats 8000000 in
theorem putTree_pairs (t : Tr) (pa ka : Option Addr) (P K pc kc : Nat) (w : World) (h : TrAt w t pa ka P K pc kc) (hg : t.good = true) (hK : K = 0) :
    Calls Tryd.prog 52 #[tra pa P pc ka K kc] w fun e w' => (∃ v, e = .returned (.tuple #[v, .int .i64 0]) ∧ Own w.heap.size w' v t.bytes) ∧ Ext w w' := by
  subst hK
  have hP4 : P ≤ 4 := by have := (tr_parts hg).1; rw [h.hp] at this; exact this
  have e8 : IntKind.u8.wrap (P : Int) = (P : Int) := by simp only [IntKind.wrap, IntKind.bits, IntKind.signed]; simp; omega
  have hfin : t.bytes = prsB t P := by
    unfold Tr.bytes prsB
    rw [if_pos h.hk, ← h.hp, List.take_length]
  have Hfin := Lib.hid hfin
  have Hlen := fun k (hk : k ≤ t.pairs.length) => prsB_len hg k hk
  have HLEN := Lib.hid Hlen
  have Hsm := Lib.hid (fun (i : Nat) (hi : i < t.pairs.length) => pr_small hg hi)
  clear hfin Hlen
  have Hh := Lib.hid h
  clear h
  go_enter Tryd.func52, Tryd.ntmps52
  have hbox : Blk (w.alloc (.cells #[.slice pa P pc, .slice ka 0 kc] 73)) w.heap.size 73 #[.slice pa P pc, .slice ka 0 kc] := Blk.new w _ _
  have hx0 : Ext w (w.alloc (.cells #[.slice pa P pc, .slice ka 0 kc] 73)) := (Ext.refl _).alloc _
  have Hbox := Lib.hid hbox
  obtain ⟨c0, c1⟩ := tree_cells hbox
  clear hbox
  go_wp2_with (go_at_call 83; ((with_reducible refine (goodTree_calls t pa ka P 0 pc kc _ (Hh.out.ext hx0)).mono ?_); rintro e w1 ⟨rfl, hx1⟩; rw [hg]; clear c0 c1; obtain ⟨c0, c1⟩ := tree_cells (Hbox.out.ext hx1); have hx01 := hx0.trans hx1; have d0 := fun (o : Obj) => ((Ext.refl w1).alloc o).cell c0; have d1 := fun (o : Obj) => ((Ext.refl w1).alloc o).cell c1))
  have hlit : Own w1.heap.size (w1.alloc (.cells #[.int .u8 1, .int .u8 (P : Int)] 5)) (.slice (some ⟨w1.heap.size, 0, none⟩) 2 2) (prsB t 0) := by
    have e : bv (prsB t 0) = [.int .u8 1, .int .u8 (P : Int)] := by
      have := two_u8 1 P (by omega) (by omega)
      unfold prsB
      rw [Hh.out.hp]
      simpa using this
    have hl : (prsB t 0).length = 2 := by simp [prsB]
    have := Own.lit (B := w1.heap.size) (w := w1) (prsB t 0) #[.int .u8 1, .int .u8 (P : Int)] (by rw [e]) (Nat.le_refl _) (by rw [hl]; decide)
    rwa [hl] at this
  have HLit := Lib.hid hlit
  clear hlit c0 c1 d0 d1
  go_loopw [25, 4] (fun i v wr => ∃ (k : Nat) (A4 : Option Addr) (n4 c4 : Nat), k ≤ P ∧ i = .int .i64 k ∧ v = .slice A4 n4 c4 ∧ Hid ((prsB t k).length = n4) ∧ n4 ≤ c4 ∧ Own w.heap.size wr v (prsB t k) ∧ Ext (w1.alloc (.cells #[.int .u8 1, .int .u8 (P : Int)] 5)) wr) (fun i _ _ => P - (intOf i).toNat)
  case atStart => exact ⟨0, some ⟨w1.heap.size, 0, none⟩, 2, 2, Nat.zero_le _, rfl, rfl, Lib.hid (by simp [prsB]), Nat.le_refl _, HLit.out.lower hx01.size, Ext.refl _⟩
  case round =>
    obtain ⟨k, A4, n4, c4, hk, rfl, rfl, Hn4, hl4, hown, hx⟩ := hrel
    have hxw : Ext w wr := (hx01.alloc _).trans hx
    by_cases hlt : k < P
    · have hkl : k < t.pairs.length := by rw [Hh.out.hp]; exact hlt
      obtain ⟨x, rfl, r0, r1⟩ := pr_row (Hh.out.cp.ext hxw) hkl
      have hsm := Hsm.out k hkl
      have hsc := prsB_succ t hkl
      obtain ⟨p, hp⟩ : ∃ p, p = t.pairs[k] := ⟨_, rfl⟩
      rw [← hp] at r0 r1 hsm hsc
      obtain ⟨hs1, hs2⟩ := hsm
      have HSC := Lib.hid hsc
      clear hp hsc
      have hnb : n4 ≤ 1000 := by have := HLEN.out k (by omega); rw [Hn4.out] at this; omega
      have hlc : ∀ (j : Nat) (v : Value), (prC p)[j]? = some v → wr.cell? ((x.add (k * 2)).add j) = some v := by
        intro j v hj
        match j, hj with
        | 0, hj => cases hj; exact r0
        | 1, hj => cases hj; exact r1
        | n + 2, hj => cases hj
      obtain ⟨pre, hpre⟩ : ∃ pre, pre = prsB t k := ⟨_, rfl⟩
      rw [← hpre] at hown Hn4 HSC
      clear hpre
      obtain ⟨n5, hn5⟩ : ∃ n5, n5 = n4 + (1 + p.1.size) := ⟨_, rfl⟩
      have HL1 := Lib.hid (show (pre ++ textB (blo p.1)).length = n5 by rw [List.length_append, Hn4.out, textB_small (by rw [blo_len]; omega), blo_len, hn5])
      have hn5b : n5 ≤ 2000 := by omega
      clear hn5
      go_wp2_with (first
        | (refine wpList_load_row_ rfl 65 (.tmp 27) rfl (x.add (k * 2)) rfl (prC p) _ hlc Tryd.underlying65 rfl pr_info ?_)
        | (refine wpList_store_blk rfl 65 (.tmp 6) (.tmp 28) rfl rfl wr.heap.size (prC p).toArray rfl rfl _ _ (Blk.new wr _ _) rfl (by kernel_rfl) (prC_one p) ?_; intro w3 hb3 hg3; have hx3 : Ext wr w3 := ((Ext.refl _).alloc _).grown_ hg3 (by simp)))
      clear hlc r0 r1 hg3
      obtain ⟨g6, hg6⟩ : ∃ g, g = wr.heap.size := ⟨_, rfl⟩
      rw [← hg6] at hb3 ⊢
      have HB6 := Lib.hid hb3
      have hc4 := (hown.ext hx3).cells
      clear hg6 hb3
      have hm2 := mono_two (isOwn_mono w3.drew.heap.size (pre ++ textB (blo p.1))) (isOwn_mono w3.drew.heap.size (pre ++ textB (blo p.1) ++ textB (blo p.2)))
      refine wp_region_opsL (CInv [29, 30, 31, 32, 33, 34, 35] _ [(0, 29, .slice A4 n4 c4), (1, 30, .pointer (some ⟨g6, 0, none⟩)), (2, 31, .string p.1), (4, 33, .pointer (some ⟨g6, 1, none⟩)), (5, 34, .string p.2)] [(3, some 32), (6, some 35)] (MonoW w3.drew [isOwn w3.drew.heap.size (pre ++ textB (blo p.1)), isOwn w3.drew.heap.size (pre ++ textB (blo p.1) ++ textB (blo p.2))])) 7 (by kernel_rfl) (by kernel_rfl) rfl (by kernel_rfl) (CInv.start (MonoW.start _ _ (Ext.refl _))) ?_ ?_
      · refine ⟨?o0, ?o1, ?o2, ?o3, ?o4, ?o5, ?o6, trivial⟩
        case o0 =>
          intro f a u h hfi hp hq hcl
          have q4 : a.tmps[4]?.getD undef = .slice A4 n4 c4 := h.agree.att (by decide)
          exact h.yield rfl rfl 29 rfl (by change 29 < 60; decide) rfl _ rfl (by go_simp)
        case o1 =>
          intro f a u h hfi hp hq hcl
          exact h.yield rfl rfl 30 rfl (by change 30 < 60; decide) rfl _ rfl (run_of_sem rfl (by rw [(show a.eval (.tmp 6) = .pointer (some ⟨g6, 0, none⟩) from h.agree.eval (by decide))]; exact f_pair0 _ _))
        case o2 =>
          intro f a u h hfi hp hq hcl
          obtain ⟨xs, hW0⟩ : ∃ xs, MonoW w3.drew [isOwn w3.drew.heap.size (pre ++ textB (blo p.1)), isOwn w3.drew.heap.size (pre ++ textB (blo p.1) ++ textB (blo p.2))] xs u := (by obtain ⟨xs, hW, _⟩ := h.st; exact ⟨xs, hW⟩)
          have hyu : Ext w3 u := ((Ext.refl w3).drew).trans hW0.ext
          exact h.yield rfl rfl 31 rfl (by change 31 < 60; decide) rfl _ rfl (run_of_sem rfl (by rw [h.at_ 1 rfl (pre_of hp 1 rfl)]; exact ld_str (pair_cells (HB6.out.ext hyu)).1))
        case o4 =>
          intro f a u h hfi hp hq hcl
          exact h.yield rfl rfl 33 rfl (by change 33 < 60; decide) rfl _ rfl (run_of_sem rfl (by rw [(show a.eval (.tmp 6) = .pointer (some ⟨g6, 0, none⟩) from h.agree.eval (by decide))]; exact f_pair1 _ _))
        case o5 =>
          intro f a u h hfi hp hq hcl
          obtain ⟨xs, hW0⟩ : ∃ xs, MonoW w3.drew [isOwn w3.drew.heap.size (pre ++ textB (blo p.1)), isOwn w3.drew.heap.size (pre ++ textB (blo p.1) ++ textB (blo p.2))] xs u := (by obtain ⟨xs, hW, _⟩ := h.st; exact ⟨xs, hW⟩)
          have hyu : Ext w3 u := ((Ext.refl w3).drew).trans hW0.ext
          exact h.yield rfl rfl 34 rfl (by change 34 < 60; decide) rfl _ rfl (run_of_sem rfl (by rw [h.at_ 3 rfl (pre_of hp 4 rfl)]; exact ld_str (pair_cells (HB6.out.ext hyu)).2))
        case o3 =>
          intro f a u h hfi hp hq hcl
          refine h.link hfi rfl rfl 0 _ rfl rfl (fun t ht => by cases ht; change 32 < 60; decide) rfl (fun k c d' hk _ => by omega) ?_
          intro xs hl hX hv
          obtain rfl : xs = [] := List.eq_nil_of_length_eq_zero hl
          refine wp_call 84 #[.tmp 29, .tmp 31] #[87, 9] _ rfl (by kernel_rfl) (by rw [arr2, h.at_ 0 rfl (pre_of hp 0 rfl), h.at_ 2 rfl (pre_of hp 2 rfl)]) (Calls.mono (text_calls A4 n4 c4 pre p.1 u (hc4.ext (((Ext.refl w3).drew).trans hX.ext)) Hn4.out hl4 (by omega)) ?_)
          rintro e u' ⟨v, rfl, ho, hx⟩
          exact ⟨_, rfl, _, rfl, hX.push hm2 hx (fun R hR => by cases hR; exact ho.lower hX.ext.size)⟩
        case o6 =>
          intro f a u h hfi hp hq hcl
          refine h.link hfi rfl rfl 1 _ rfl rfl (fun t ht => by cases ht; change 35 < 60; decide) rfl (fun k c d' hk hc => by (have hk0 : k = 0 := (by omega)); subst hk0; cases hc; exact pre_of hp 3 rfl) ?_
          intro xs hl hX hv
          have ho1 : Own w3.drew.heap.size u (xs.getD 0 undef) (pre ++ textB (blo p.1)) := hX.get 0 (by omega) rfl
          have e32 := hv 0 _ _ rfl (by decide)
          rw [← e32] at ho1
          obtain ⟨A9, k9, e9, l9, _, c9⟩ := Own.form_at ho1 HL1.out
          refine wp_call 84 #[.tmp 32, .tmp 34] #[87, 9] _ rfl (by kernel_rfl) (by rw [arr2, e9, h.at_ 4 rfl (pre_of hp 5 rfl)]) (Calls.mono (text_calls A9 n5 k9 (pre ++ textB (blo p.1)) p.2 u c9 HL1.out l9 (by omega)) ?_)
          rintro e u' ⟨v, rfl, ho, hx⟩
          refine ⟨_, rfl, _, rfl, hX.push hm2 hx (fun R hR => ?_)⟩
          rw [hl] at hR
          cases hR
          exact ho.lower hX.ext.size
      · intro f a u h hall
        obtain ⟨xs, hxl, hX, hv⟩ := h.done (by intro c hc; simp only [List.mem_cons, List.not_mem_nil, or_false] at hc; rcases hc with rfl | rfl; all_goals exact hall _ (by decide))
        have ho2 : Own w3.drew.heap.size u (xs.getD 1 undef) (pre ++ textB (blo p.1) ++ textB (blo p.2)) := hX.get 1 (by rw [hxl]; decide) rfl
        have e35 := hv 1 _ _ rfl
        rw [← e35] at ho2
        have hyu : Ext w3 u := ((Ext.refl w3).drew).trans hX.ext
        refine wpOp_of rfl rfl (wp_yield (v := a.eval (.tmp 35)) (w' := u) (by go_simp) ?_)
        have hag := h.agree.out
        obtain ⟨v9, hv9⟩ : ∃ v9, v9 = a.eval (.tmp 35) := ⟨_, rfl⟩
        rw [← hv9] at ho2 ⊢
        clear hv9 e35 hv
        simp only [List.foldl_cons, List.foldl_nil, Act.put, List.setIfInBounds_toArray, List.set_cons_zero, List.set_cons_succ] at hag
        generalize a.eval (.tmp 29) = y29 at hag
        generalize a.eval (.tmp 30) = y30 at hag
        generalize a.eval (.tmp 31) = y31 at hag
        generalize a.eval (.tmp 32) = y32 at hag
        generalize a.eval (.tmp 33) = y33 at hag
        generalize a.eval (.tmp 34) = y34 at hag
        generalize a.eval (.tmp 35) = y35 at hag
        clear h hall
        subst hag
        simp only [Act.put, List.setIfInBounds_toArray, List.set_cons_zero, List.set_cons_succ]
        have ho3 := ho2.lower (B' := w.heap.size) (by have := hxw.size; have := hx3.size; simp; omega)
        rw [← HSC.out] at ho3
        obtain ⟨A9, k9, e9, l9, _, _⟩ := Own.form ho3
        subst e9
        go_wp2
        go_roundw
        case rel => exact ⟨k + 1, A9, _, k9, by omega, by go_num, rfl, Lib.hid rfl, l9, ho3, (hx.trans hx3).trans hyu⟩
        case measure => simp [intOf]; omega
    · obtain rfl : k = P := by omega
      go_wp2
      go_ret2
      exact ⟨⟨_, rfl, by rw [Hfin.out]; exact hown⟩, hxw⟩
/-- The stages of append(Text(b, key), ident.Text(id)...). -/
def KidW (w0 : World) (bs1 bs2 : List UInt8) (s : Value) : List Value → World → Prop
  | [], u => Ext w0 u
  | [v], u => Ext w0 u ∧ Own w0.heap.size u v bs1
  | [v, t], u => Ext w0 u ∧ Own w0.heap.size u v bs1 ∧ t = s
  | [v, t, v'], u => Ext w0 u ∧ Own w0.heap.size u v' bs2
  | _, _ => False
theorem KidW.ext {w0 u : World} {bs1 bs2 : List UInt8} {s : Value} {xs : List Value} (h : KidW w0 bs1 bs2 s xs u) : Ext w0 u := by
  match xs, h with
  | [], h => exact h
  | [v], h => exact h.1
  | [v, t], h => exact h.1
  | [v, t, v'], h => exact h.1
  | a :: b :: c :: d :: e, h => exact h.elim

set_option maxRecDepth 100000 in
set_option maxHeartbeats 8000000 in
theorem putTree_kids (t : Tr) (pa ka : Option Addr) (P K pc kc : Nat) (w : World) (h : TrAt w t pa ka P K pc kc) (hg : t.good = true) (hK : 0 < K) (hP : P = 0) :
    Calls Tryd.prog 52 #[tra pa P pc ka K kc] w fun e w' => (∃ v, e = .returned (.tuple #[v, .int .i64 0]) ∧ Own w.heap.size w' v t.bytes) ∧ Ext w w' := by
  subst hP
  have hK4 : K ≤ 3 := by have := (tr_parts hg).2.1; rw [h.hk] at this; exact this
  have e8 : IntKind.u8.wrap (K : Int) = (K : Int) := by simp only [IntKind.wrap, IntKind.bits, IntKind.signed]; simp; omega
  have hne : (((K : Int) == 0) : Bool) = false := by rw [beq_eq_false_iff_ne]; omega
  have hfin : t.bytes = kdsB t K := by
    unfold Tr.bytes kdsB
    rw [if_neg (by rw [h.hk]; omega), ← h.hk, List.take_length]
  have Hfin := Lib.hid hfin
  have Hlen := fun k (hk : k ≤ t.kids.length) => kdsB_len hg (fun q hq => (h.sk q hq).2) k hk
  have HLEN := Lib.hid Hlen
  have Hsm := Lib.hid (fun (i : Nat) (hi : i < t.kids.length) => kd_small hg hi)
  clear hfin Hlen
  have Hh := Lib.hid h
  clear h
  go_enter Tryd.func52, Tryd.ntmps52
  have hbox : Blk (w.alloc (.cells #[.slice pa 0 pc, .slice ka K kc] 73)) w.heap.size 73 #[.slice pa 0 pc, .slice ka K kc] := Blk.new w _ _
  have hx0 : Ext w (w.alloc (.cells #[.slice pa 0 pc, .slice ka K kc] 73)) := (Ext.refl _).alloc _
  have Hbox := Lib.hid hbox
  obtain ⟨c0, c1⟩ := tree_cells hbox
  clear hbox
  go_wp2_with (go_at_call 83; ((with_reducible refine (goodTree_calls t pa ka 0 K pc kc _ (Hh.out.ext hx0)).mono ?_); rintro e w1 ⟨rfl, hx1⟩; rw [hg]; clear c0 c1; obtain ⟨c0, c1⟩ := tree_cells (Hbox.out.ext hx1); have hx01 := hx0.trans hx1; have d0 := fun (o : Obj) => ((Ext.refl w1).alloc o).cell c0; have d1 := fun (o : Obj) => ((Ext.refl w1).alloc o).cell c1))
  have hlit : Own w1.heap.size (w1.alloc (.cells #[.int .u8 2, .int .u8 (K : Int)] 5)) (.slice (some ⟨w1.heap.size, 0, none⟩) 2 2) (kdsB t 0) := by
    have e : bv (kdsB t 0) = [.int .u8 2, .int .u8 (K : Int)] := by
      have := two_u8 2 K (by omega) (by omega)
      unfold kdsB
      rw [Hh.out.hk]
      simpa using this
    have hl : (kdsB t 0).length = 2 := by simp [kdsB]
    have := Own.lit (B := w1.heap.size) (w := w1) (kdsB t 0) #[.int .u8 2, .int .u8 (K : Int)] (by rw [e]) (Nat.le_refl _) (by rw [hl]; decide)
    rwa [hl] at this
  have HLit := Lib.hid hlit
  clear hlit c0 c1 d0 d1 hne
  go_loopw [46, 7] (fun i v wr => ∃ (k : Nat) (A4 : Option Addr) (n4 c4 : Nat), k ≤ K ∧ i = .int .i64 k ∧ v = .slice A4 n4 c4 ∧ Hid ((kdsB t k).length = n4) ∧ n4 ≤ c4 ∧ Own w.heap.size wr v (kdsB t k) ∧ Ext (w1.alloc (.cells #[.int .u8 2, .int .u8 (K : Int)] 5)) wr) (fun i _ _ => K - (intOf i).toNat)
  case atStart => exact ⟨0, some ⟨w1.heap.size, 0, none⟩, 2, 2, Nat.zero_le _, rfl, rfl, Lib.hid (by simp [kdsB]), Nat.le_refl _, HLit.out.lower hx01.size, Ext.refl _⟩
  case round =>
    obtain ⟨k, A4, n4, c4, hk, rfl, rfl, Hn4, hl4, hown, hx⟩ := hrel
    have hxw : Ext w wr := (hx01.alloc _).trans hx
    by_cases hlt : k < K
    · have hkl : k < t.kids.length := by rw [Hh.out.hk]; exact hlt
      obtain ⟨x, rfl, _, _, r2⟩ := kd_row (Hh.out.ck.ext hxw) hkl
      have hsm := Hsm.out k hkl
      have hql : (t.kids[k]).2.length = 33 := (Hh.out.sk _ (List.getElem_mem hkl)).2
      have hsc := kdsB_succ t hkl
      obtain ⟨q, hq⟩ : ∃ q, q = t.kids[k] := ⟨_, rfl⟩
      rw [← hq] at r2 hsm hsc hql
      obtain ⟨hs1, _⟩ := hsm
      have HSC := Lib.hid hsc
      have HQL := Lib.hid hql
      clear hq hsc hql
      have hnb : n4 ≤ 1000 := by have := HLEN.out k (by omega); rw [Hn4.out] at this; omega
      have hlc := r2
      obtain ⟨pre, hpre⟩ : ∃ pre, pre = kdsB t k := ⟨_, rfl⟩
      rw [← hpre] at hown Hn4 HSC
      clear hpre
      obtain ⟨n5, hn5⟩ : ∃ n5, n5 = n4 + (1 + q.1.size) := ⟨_, rfl⟩
      have HL1 := Lib.hid (show (pre ++ textB (blo q.1)).length = n5 by rw [List.length_append, Hn4.out, textB_small (by rw [blo_len]; omega), blo_len, hn5])
      have hn5b : n5 ≤ 2000 := by omega
      have htl := idText_len HQL.out
      have HTX := fun w' => idtext_calls q.2 w' HQL.out
      unfold idv at HTX
      clear hn5
      go_wp2_with (first
        | (refine wpList_load_row_ rfl 77 (.tmp 48) rfl (x.add (k * 34)) rfl (kdC q) _ hlc Tryd.underlying77 rfl (by rw [kd_info, kdC_len HQL.out]) ?_)
        | (refine wpList_store_blk rfl 77 (.tmp 9) (.tmp 49) rfl rfl wr.heap.size (kdC q).toArray rfl rfl _ _ (Blk.new wr _ _) (by rw [List.size_toArray, kdC_len HQL.out]; rfl) (by kernel_rfl) (kdC_one q) ?_; intro w3 hb3 hg3; have hx3 : Ext wr w3 := ((Ext.refl _).alloc _).grown_ hg3 (by simp)))
      clear hlc r2 hg3
      obtain ⟨g6, hg6⟩ : ∃ g, g = wr.heap.size := ⟨_, rfl⟩
      rw [← hg6] at hb3 ⊢
      have HB6 := Lib.hid hb3
      have hc4 := (hown.ext hx3).cells
      clear hg6 hb3
      refine wp_region_opsL (CInv [50, 51, 52, 53, 54, 55, 56, 57] _ [(0, 50, .slice A4 n4 c4), (1, 51, .pointer (some ⟨g6, 0, none⟩)), (2, 52, .string q.1), (4, 54, .pointer (some ⟨g6, 1, none⟩)), (5, 55, .agg (bv q.2).toArray)] [(3, some 53), (6, some 56), (7, some 57)] (KidW w3.drew (pre ++ textB (blo q.1)) (pre ++ textB (blo q.1) ++ idText q.2) (.string (bstr (idText q.2))))) 8 (by kernel_rfl) (by kernel_rfl) rfl (by kernel_rfl) (CInv.start (Ext.refl _)) ?_ ?_
      · refine ⟨?o0, ?o1, ?o2, ?o3, ?o4, ?o5, ?o6, ?o7, trivial⟩
        case o0 =>
          intro f a u h hfi hp hq hcl
          have q7 : a.tmps[7]?.getD undef = .slice A4 n4 c4 := h.agree.att (by decide)
          exact h.yield rfl rfl 50 rfl (by change 50 < 60; decide) rfl _ rfl (by go_simp)
        case o1 =>
          intro f a u h hfi hp hq hcl
          exact h.yield rfl rfl 51 rfl (by change 51 < 60; decide) rfl _ rfl (run_of_sem rfl (by rw [(show a.eval (.tmp 9) = .pointer (some ⟨g6, 0, none⟩) from h.agree.eval (by decide))]; exact f_kid0 _ _))
        case o2 =>
          intro f a u h hfi hp hq hcl
          obtain ⟨xs, hW0, _⟩ := h.st
          have hyu : Ext w3 u := ((Ext.refl w3).drew).trans hW0.ext
          exact h.yield rfl rfl 52 rfl (by change 52 < 60; decide) rfl _ rfl (run_of_sem rfl (by rw [h.at_ 1 rfl (pre_of hp 1 rfl)]; exact ld_str (kid_cells (HB6.out.ext hyu)).1))
        case o4 =>
          intro f a u h hfi hp hq hcl
          exact h.yield rfl rfl 54 rfl (by change 54 < 60; decide) rfl _ rfl (run_of_sem rfl (by rw [(show a.eval (.tmp 9) = .pointer (some ⟨g6, 0, none⟩) from h.agree.eval (by decide))]; exact f_kid1 _ _))
        case o5 =>
          intro f a u h hfi hp hq hcl
          obtain ⟨xs, hW0, _⟩ := h.st
          have hyu : Ext w3 u := ((Ext.refl w3).drew).trans hW0.ext
          exact h.yield rfl rfl 55 rfl (by change 55 < 60; decide) rfl _ rfl (run_of_sem rfl (by rw [h.at_ 3 rfl (pre_of hp 4 rfl)]; exact ld_id HQL.out (kid_cells (HB6.out.ext hyu)).2))
        case o3 =>
          intro f a u h hfi hp hq hcl
          refine h.link hfi rfl rfl 0 _ rfl rfl (fun t ht => by cases ht; change 53 < 60; decide) rfl (fun k c d' hk _ => by omega) ?_
          intro xs hl hX hv
          obtain rfl : xs = [] := List.eq_nil_of_length_eq_zero hl
          have hX : Ext w3.drew u := hX
          refine wp_call 84 #[.tmp 50, .tmp 52] #[87, 9] _ rfl (by kernel_rfl) (by rw [arr2, h.at_ 0 rfl (pre_of hp 0 rfl), h.at_ 2 rfl (pre_of hp 2 rfl)]) (Calls.mono (text_calls A4 n4 c4 pre q.1 u (hc4.ext (((Ext.refl w3).drew).trans hX)) Hn4.out hl4 (by omega)) ?_)
          rintro e u' ⟨v, rfl, ho, hx⟩
          exact ⟨_, rfl, _, rfl, hX.trans hx, ho.lower hX.size⟩
        case o6 =>
          intro f a u h hfi hp hq hcl
          refine h.link hfi rfl rfl 1 _ rfl rfl (fun t ht => by cases ht; change 56 < 60; decide) rfl (fun k c d' hk hc => by (have hk0 : k = 0 := (by omega)); subst hk0; cases hc; exact pre_of hp 3 rfl) ?_
          intro xs hl hX hv
          obtain ⟨v, rfl⟩ := len1 hl
          obtain ⟨hX, ho1⟩ := hX
          refine wp_call 80 #[.tmp 55] #[27] _ rfl (by kernel_rfl) (by rw [arr1, h.at_ 4 rfl (pre_of hp 5 rfl)]) (Calls.mono (HTX u) ?_)
          rintro e u' ⟨rfl, hx⟩
          exact ⟨_, rfl, _, rfl, hX.trans hx, ho1.ext hx, rfl⟩
        case o7 =>
          intro f a u h hfi hp hq hcl
          refine h.link hfi rfl rfl 2 _ rfl rfl (fun t ht => by cases ht; change 57 < 60; decide) rfl (fun k c d' hk hc => by (have hk0 : k = 1 := (by omega)); subst hk0; cases hc; exact pre_of hp 6 rfl) ?_
          intro xs hl hX hv
          obtain ⟨v, t', rfl⟩ := len2 hl
          obtain ⟨hX, ho1, rfl⟩ := hX
          have e53 := hv 0 _ _ rfl (by decide)
          have e56 := hv 1 _ _ rfl (by decide)
          refine wp_append_str u (.tmp 53) (.tmp 56) rfl w3.drew.heap.size v (pre ++ textB (blo q.1)) e53 ho1 (bstr (idText q.2)) e56 (by rw [HL1.out, bstr_size]; omega) hX.size ?_
          intro v' u' ho hg
          rw [bstr_data] at ho
          exact ⟨_, rfl, ho1.grows hX hg, ho⟩
      · intro f a u h hall
        obtain ⟨xs, hxl, hX, hv⟩ := h.done (by intro c hc; simp only [List.mem_cons, List.not_mem_nil, or_false] at hc; rcases hc with rfl | rfl | rfl; all_goals exact hall _ (by decide))
        obtain ⟨v, t', v9, rfl⟩ := len3 hxl
        obtain ⟨hX, ho2⟩ := hX
        have e57 := hv 2 _ _ rfl
        have e57 : a.eval (.tmp 57) = v9 := e57
        have hyu : Ext w3 u := ((Ext.refl w3).drew).trans hX
        refine wpOp_of rfl rfl (wp_yield (v := v9) (w' := u) (by have := e57; simp only [Act.eval, Array.getD_eq_getD_getElem?] at this; go_simp) ?_)
        have hag := h.agree.out
        clear e57 hv
        simp only [List.foldl_cons, List.foldl_nil, Act.put, List.setIfInBounds_toArray, List.set_cons_zero, List.set_cons_succ] at hag
        generalize a.eval (.tmp 50) = y50 at hag
        generalize a.eval (.tmp 51) = y51 at hag
        generalize a.eval (.tmp 52) = y52 at hag
        generalize a.eval (.tmp 53) = y53 at hag
        generalize a.eval (.tmp 54) = y54 at hag
        generalize a.eval (.tmp 55) = y55 at hag
        generalize a.eval (.tmp 56) = y56 at hag
        generalize a.eval (.tmp 57) = y57 at hag
        clear h hall
        subst hag
        simp only [Act.put, List.setIfInBounds_toArray, List.set_cons_zero, List.set_cons_succ]
        have ho3 := ho2.lower (B' := w.heap.size) (by have := hxw.size; have := hx3.size; simp; omega)
        rw [← HSC.out] at ho3
        obtain ⟨A9, k9, e9, l9, _, _⟩ := Own.form ho3
        subst e9
        go_wp2
        go_roundw
        case rel => exact ⟨k + 1, A9, _, k9, by omega, by go_num, rfl, Lib.hid rfl, l9, ho3, (hx.trans hx3).trans hyu⟩
        case measure => simp [intOf]; omega
    · obtain rfl : k = K := by omega
      go_wp2
      go_ret2
      exact ⟨⟨_, rfl, by rw [Hfin.out]; exact hown⟩, hxw⟩
/-- PutTree: a tree's bytes, in new memory. -/
theorem putTree_calls (t : Tr) (pa ka : Option Addr) (P K pc kc : Nat) (w : World) (h : TrAt w t pa ka P K pc kc) :
    Calls Tryd.prog 52 #[tra pa P pc ka K kc] w fun e w' => (∃ v, e = .returned (.tuple #[v, .int .i64 (if t.good then 0 else 1)]) ∧ Own w.heap.size w' v (if t.good then t.bytes else [])) ∧ Ext w w' := by
  cases hg : t.good with
  | false => exact putTree_bad t pa ka P K pc kc w h hg
  | true =>
    rcases Nat.eq_zero_or_pos K with h0 | h0
    · exact putTree_pairs t pa ka P K pc kc w h hg h0
    · have : P = 0 := by have := (tr_parts hg).2.2.1; rw [h.hp, h.hk] at this; omega
      exact putTree_kids t pa ka P K pc kc w h hg h0 this
end Go.Proofs.YtcnhbodemabbdaaDoor
/- tree.made: a tree's object. Printed by wip/mktreebuild.py. -/
namespace Go.Proofs.YtcnhbodemabbdaaDoor
open Go.RowKit
set_option linter.unusedVariables false

set_option maxRecDepth 100000 in
set_option maxHeartbeats 16000000 in
theorem made_calls (k : UInt8) (t : Tr) (pa ka : Option Addr) (P K pc kc : Nat) (w : World) (h : TrAt w t pa ka P K pc kc) (hg : t.good = true) (hl : t.bytes.length ≤ 200) (hT : Tab w) :
    Calls Tryd.prog 35 #[.int .u8 k.toNat, tra pa P pc ka K kc] w fun e w' => e = .returned (.tuple #[.agg (obC (objT k t)).toArray, .int .i64 0]) ∧ Ext w w' := by
  obtain ⟨o, ho⟩ : ∃ o, o = objT k t := ⟨_, rfl⟩
  obtain ⟨bs, hbs⟩ : ∃ b, b = t.bytes := ⟨_, rfl⟩
  have HO1 : Hid (o.1 = idPad (idName k bs)) := Lib.hid (by rw [ho, hbs]; rfl)
  have HO2 : Hid (o.2 = bstr bs) := Lib.hid (by rw [ho, hbs]; rfl)
  have HO3 : Hid (o.1.length = 33) := Lib.hid (by rw [HO1.out]; exact idPad_len (idName_len _ _))
  have HPT := Lib.hid (fun (u : World) (hu : Ext w u) => putTree_calls t pa ka P K pc kc u (h.ext hu))
  rw [hg, ← hbs] at HPT
  rw [← hbs] at hl
  rw [← ho]
  have HL : Hid (bs.length ≤ 1048576) := Lib.hid (by omega)
  have HTB := Lib.hid hT
  clear h hg hT ho hbs
  go_enter Tryd.func35, Tryd.ntmps35
  obtain ⟨w1, hw1⟩ : ∃ w1, w1 = (w.alloc (.cells #[.slice pa P pc, .slice ka K kc] 73)).alloc (.cells (obC (idNone, ByteArray.empty)).toArray 35) := ⟨_, rfl⟩
  have hx1 : Ext w w1 := by rw [hw1]; exact ((Ext.refl _).alloc _).alloc _
  have hbt : Blk w1 w.heap.size 73 #[.slice pa P pc, .slice ka K kc] := by rw [hw1]; exact (Blk.new w _ _).ext ((Ext.refl _).alloc _)
  have hbo : Blk w1 (w.heap.size + 1) 35 (obC (idNone, ByteArray.empty)).toArray := by rw [hw1]; exact Blk.new_at (by simp) _ _
  go_upto_region 1 with (fail)
  rw [show (#[.int .u8 0, .int .u8 0, .int .u8 0, .int .u8 0, .int .u8 0, .int .u8 0, .int .u8 0, .int .u8 0, .int .u8 0, .int .u8 0, .int .u8 0, .int .u8 0, .int .u8 0, .int .u8 0, .int .u8 0, .int .u8 0, .int .u8 0, .int .u8 0, .int .u8 0, .int .u8 0, .int .u8 0, .int .u8 0, .int .u8 0, .int .u8 0, .int .u8 0, .int .u8 0, .int .u8 0, .int .u8 0, .int .u8 0, .int .u8 0, .int .u8 0, .int .u8 0, .int .u8 0, .string { data := #[] }] : Array Value) = (obC (idNone, ByteArray.empty)).toArray from rfl, ← hw1]
  obtain ⟨g3, hg3⟩ : ∃ g, g = w.heap.size := ⟨_, rfl⟩
  obtain ⟨g4, hg4e⟩ : ∃ g, g = w.heap.size + 1 := ⟨_, rfl⟩
  have hg4 : w.heap.size ≤ g4 := by omega
  rw [← hg4e] at hbo ⊢
  rw [← hg3] at hbt ⊢
  have HBO := Lib.hid hbo
  have HG4 : Hid (g4 < w1.heap.size) := Lib.hid hbo.lt
  obtain ⟨c0, c1⟩ := tree_cells hbt
  clear hw1 hbt hbo hg3 hg4e
  go_upto_region 2 with (go_at_call 52; (with_reducible refine Calls.mono (HPT.out w1 hx1) ?_); rintro e w2 ⟨⟨v2, rfl, ho2⟩, hx2'⟩; obtain ⟨A, c, rfl, hnc, _, hc2⟩ := Own.form ho2)
  have hx2 := hx1.trans hx2'
  have HB4 := Lib.hid (HBO.out.ext hx2')
  have HAB : Hid (∀ x, A = some x → some x.block ≠ some g4) := Lib.hid (fun x hx => by
    have h1 := Own.ne ho2 x hx
    have h2 := HG4.out
    intro e
    have h3 := Option.some.inj e
    omega)
  simp only [if_true] at hc2 hnc
  have HC2 := Lib.hid hc2
  obtain ⟨n, hn⟩ : ∃ n, bs.length = n := ⟨_, rfl⟩
  rw [hn] at hnc HL
  have HN := Lib.hid hn
  simp only [if_true, hn]
  clear ho2 hc2 hx2' HBO HG4 c0 c1 hn HPT
  refine wp_region_opsC (JInv [13, 14, 15, 16, 17, 18, 19, 5] _ [(0, 13, .int .u8 k.toNat), (1, 14, .slice A n c), (2, 15, .agg (bv o.1).toArray), (3, 16, .slice A n c), (4, 17, .string o.2), (5, 18, .agg (obC o).toArray), (6, 19, .int .i64 0), (8, 5, .int .i64 0)] [] (fun f L u => Ext w u ∧ Cells u A (bv bs) ∧ (f 7 = false → Blk u g4 35 (obC (idNone, ByteArray.empty)).toArray) ∧ (f 7 = true → Blk u g4 35 (obC o).toArray))) (by kernel_rfl) (by kernel_rfl) (JInv.start (⟨hx2.drew, HC2.out.ext (Ext.refl _).drew, fun _ => HB4.out, fun h => (by cases h)⟩)) ?_ ?_
  · refine ⟨?o0, ?o1, ?o2, ?o3, ?o4, ?o5, ?o6, ?o7, ?o8, trivial⟩
    case o0 =>
      intro f a u h hfi hp hq hcl
      have q0 : a.tmps[0]?.getD undef = .int .u8 k.toNat := h.agree.att (by decide)
      exact h.yield rfl rfl 13 rfl (by change 13 < 20; decide) rfl _ rfl (fun L hL => hL) (by go_simp)
    case o1 =>
      intro f a u h hfi hp hq hcl
      have q6 : a.tmps[6]?.getD undef = .slice A n c := h.agree.att (by decide)
      exact h.yield rfl rfl 14 rfl (by change 14 < 20; decide) rfl _ rfl (fun L hL => hL) (by go_simp)
    case o2 =>
      intro f a u h hfi hp hq hcl
      exact h.call rfl rfl 15 rfl (by change 15 < 20; decide) rfl _ rfl (fun L w' hL hx => ⟨hL.1.trans hx, hL.2.1.ext hx, fun hf => (hL.2.2.1 hf).ext hx, fun hf => (hL.2.2.2 hf).ext hx⟩) 40 #[.tmp 13, .tmp 14] #[5, 87] _ rfl (by kernel_rfl) (by rw [arr2, h.at_ 0 rfl (pre_of hp 0 rfl), h.at_ 1 rfl (pre_of hp 1 rfl)] <;> rfl) (by rw [HO1.out]; exact idof_calls k A n c bs u h.mem.2.1 HN.out hnc HL.out (HTB.out.ext h.mem.1))
    case o3 =>
      intro f a u h hfi hp hq hcl
      have q6 : a.tmps[6]?.getD undef = .slice A n c := h.agree.att (by decide)
      exact h.yield rfl rfl 16 rfl (by change 16 < 20; decide) rfl _ rfl (fun L hL => hL) (by go_simp)
    case o4 =>
      intro f a u h hfi hp hq hcl
      exact h.yield rfl rfl 17 rfl (by change 17 < 20; decide) rfl _ rfl (fun L hL => hL) (run_of_sem rfl (by rw [h.at_ 3 rfl (pre_of hp 3 rfl)]; exact (by rw [HO2.out]; exact conv_str (P := Tryd.prog) Tryd.underlying87 Tryd.underlying5 Tryd.underlying9 HN.out h.mem.2.1)))
    case o5 =>
      intro f a u h hfi hp hq hcl
      exact h.stepV rfl rfl 18 rfl (by change 18 < 20; decide) rfl _ rfl (wp_val (s := Instr.build 35 #[(0, a.eval (.tmp 15)), (1, a.eval (.tmp 17))]) (exec_build rfl (by rw [arr2])) (by rw [h.at_ 2 rfl (pre_of hp 2 rfl), h.at_ 4 rfl (pre_of hp 4 rfl)]; exact build_obj _ _ _ HO3.out) ⟨rfl, h.mem⟩)
    case o6 =>
      intro f a u h hfi hp hq hcl
      have q7 : a.tmps[7]?.getD undef = .int .i64 0 := h.agree.att (by decide)
      exact h.yield rfl rfl 19 rfl (by change 19 < 20; decide) rfl _ rfl (fun L hL => hL) (by go_simp)
    case o7 =>
      intro f a u h hfi hp hq hcl
      refine h.turn rfl rfl (none) rfl rfl ?_
      have e18 := (h.at_ 5 rfl (pre_of hp 5 rfl))
      have hb := h.mem.2.2.1 hfi
      refine wp_store_blk 35 (.tmp 4) (.tmp 18) rfl rfl g4 (obC o).toArray ((show a.eval (.tmp 4) = .pointer (some ⟨g4, 0, none⟩) from h.agree.eval (by decide))) e18 35 (obC (idNone, ByteArray.empty)).toArray hb (by rw [List.size_toArray, List.size_toArray, obC_len HO3.out]; rfl) (by kernel_rfl) (fun v hv => obC_one o v (by simpa using hv)) ?_
      intro w' hb' hg'
      refine ⟨.tuple #[], rfl, ?_⟩
      exact ⟨h.mem.1.grown_ hg' (fun j e => by cases e; exact hg4), h.mem.2.1.grown hg' (fun x hx => HAB.out x hx), fun hf => (by cases hf), fun _ => hb'⟩
    case o8 =>
      intro f a u h hfi hp hq hcl
      have q19 := h.att 6 rfl (pre_of hp 6 rfl)
      exact h.yield rfl rfl 5 rfl (by change 5 < 20; decide) rfl _ rfl (fun L hL => hL) (by go_simp)
  · intro f a u h hall hfar
    have hag := h.agree.out
    have hm := h.mem
    simp only [List.foldl_cons, List.foldl_nil, Act.put, List.setIfInBounds_toArray, List.set_cons_zero, List.set_cons_succ] at hag
    simp only [h.at_ 7 rfl (hall 8 (by decide))] at hag
    generalize a.eval (.tmp 13) = y13 at hag
    generalize a.eval (.tmp 14) = y14 at hag
    generalize a.eval (.tmp 15) = y15 at hag
    generalize a.eval (.tmp 16) = y16 at hag
    generalize a.eval (.tmp 17) = y17 at hag
    generalize a.eval (.tmp 18) = y18 at hag
    generalize a.eval (.tmp 19) = y19 at hag
    obtain ⟨hxu, _, _, hbu⟩ := hm
    have hb4 := hbu (hall 7 (by decide))
    clear hbu h hall hfar
    subst hag
    go_wp2
    refine bodyPost_ret (results_row_tmp (P := Tryd.prog) (fn := Tryd.f35) rfl _ _ g4 35 (obC o).toArray _ rfl hb4 Tryd.underlying35 rfl (by rw [List.size_toArray, obC_len HO3.out]; kernel_rfl)) rfl ?_
    exact ⟨rfl, hxu⟩
end Go.Proofs.YtcnhbodemabbdaaDoor
