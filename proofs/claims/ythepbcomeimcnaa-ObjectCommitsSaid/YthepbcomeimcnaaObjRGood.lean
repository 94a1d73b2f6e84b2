/- The walk of the reference's GoodTree, layer 15. Printed by wip/mkobjrgood.py. -/
import Derived.Test.YthepbcomeimcnaaObjId
import Derived.Test.YthepbcomeimcnaaRowFacts
namespace Go.Proofs.Ythepbcomeimcnaa
open Go.RowKit
set_option linter.unusedVariables false

def sv (xs : List ByteArray) : List Value := xs.map .string
theorem sv_len (xs : List ByteArray) : (sv xs).length = xs.length := by simp [sv]
theorem sv_one (xs : List ByteArray) : ∀ u ∈ sv xs, u.oneCell' = true := by
  intro u hu
  obtain ⟨c, _, rfl⟩ := List.mem_map.1 hu
  rfl
theorem sv_snoc (xs : List ByteArray) (s : ByteArray) : sv xs ++ [.string s] = sv (xs ++ [s]) := by simp [sv]
theorem strI : (Try.prog.info? 9).map (fun i => (i.zero, i.size, i.bytes)) = some (some (.string ByteArray.empty), 1, 16) := by kernel_rfl
def keyAt (ks : List ByteArray) (i : Nat) : ByteArray := ks.getD i ByteArray.empty
def keyOk (ks : List ByteArray) (i : Nat) : Bool := decide ((keyAt ks i).size ≤ 16) && (i == 0 || bslt (keyAt ks (i - 1)) (keyAt ks i))
theorem keyAt_get {ks : List ByteArray} {i : Nat} (h : i < ks.length) : keyAt ks i = ks[i] := by unfold keyAt; rw [List.getD_eq_getElem?_getD, List.getElem?_eq_getElem h]; rfl
theorem keyAt_prs {ps : List Pr} {i : Nat} (h : i < ps.length) : keyAt (ps.map (·.1)) i = (prAt ps i).1 := by rw [keyAt_get (by simpa using h), prAt_get h, List.getElem_map]
theorem keyAt_kds {ks : List Kd} {i : Nat} (h : i < ks.length) : keyAt (ks.map (·.1)) i = (kdAt ks i).1 := by rw [keyAt_get (by simpa using h), kdAt_get h, List.getElem_map]
theorem prOk_key {ps : List Pr} {i : Nat} (h : i < ps.length) : prOk ps i = (decide ((prAt ps i).2.size ≤ 16) && keyOk (ps.map (·.1)) i) := by
  unfold prOk keyOk
  rw [keyAt_prs h, keyAt_prs (show i - 1 < ps.length by omega)]
  cases decide ((prAt ps i).1.size ≤ 16) <;> cases decide ((prAt ps i).2.size ≤ 16) <;> rfl
theorem kdOk_key {ks : List Kd} {i : Nat} (h : i < ks.length) : kdOk ks i = ((idGood (kdAt ks i).2 && idKind (kdAt ks i).2 == idKind (kdAt ks 0).2) && keyOk (ks.map (·.1)) i) := by
  unfold kdOk keyOk
  rw [keyAt_kds h, keyAt_kds (show i - 1 < ks.length by omega)]
  cases decide ((kdAt ks i).1.size ≤ 16) <;> cases idGood (kdAt ks i).2 <;> cases (idKind (kdAt ks i).2 == idKind (kdAt ks 0).2) <;> rfl
theorem all_keys {f g h : Nat → Bool} {n : Nat} (e : ∀ i < n, f i = (g i && h i)) (hg : (List.range n).all g = true) : (List.range n).all f = (List.range n).all h := by
  have hg' : ∀ i < n, g i = true := fun i hi => List.all_eq_true.1 hg i (List.mem_range.2 hi)
  rw [Bool.eq_iff_iff, List.all_eq_true, List.all_eq_true]
  constructor
  · intro hh i hi
    have := hh i hi
    rw [e i (List.mem_range.1 hi), hg' i (List.mem_range.1 hi), Bool.true_and] at this
    exact this
  · intro hh i hi
    rw [e i (List.mem_range.1 hi), hg' i (List.mem_range.1 hi), Bool.true_and]
    exact hh i hi
theorem own_row_cell {w : World} {B : Nat} {e : TypeId} {n c g : Nat} {xs : List Value} (h : w.ownsRow B e 1 (.slice (some ⟨g, 0, none⟩) n c) n xs) {i : Nat} {v : Value} (hi : xs[i]? = some v) : w.cell? ⟨g, i, none⟩ = some v := by
  have := h.cells (g := g) rfl i v hi
  rwa [add_new] at this
theorem idText_none {b : List UInt8} (h : idGood b = false) : idText b = [] := by unfold idText; rw [h]; rfl
theorem idText_some {b : List UInt8} (hl : b.length = 33) (h : idGood b = true) : ∃ k l, idText b = k :: l := by
  have h2 := (idCan_kind (idText_can hl h)).2
  cases hx : idText b with
  | nil => rw [hx] at h2; simp at h2; omega
  | cons k l => exact ⟨k, l, rfl⟩
theorem rgoodTree_bad (t : Tr) (pa ka : Option Addr) (P K pc kc : Nat) (w : World) (h : TrAt w t pa ka P K pc kc) (hs : (0 < K ∧ 0 < P) ∨ (P = 0 ∧ K = 1) ∨ (P = 0 ∧ 3 < K) ∨ (K = 0 ∧ 4 < P)) :
    Calls Try.prog 17 #[tra pa P pc ka K kc] w fun e w' => e = .returned (.bool false) ∧ Ext w w' := by
  clear h
  rcases hs with ⟨h1, h2⟩ | ⟨rfl, rfl⟩ | ⟨rfl, h2⟩ | ⟨rfl, h2⟩
  · go_enter Try.func17, Try.ntmps17
    have hx0 : Ext w (w.alloc (.cells #[.slice pa P pc, .slice ka K kc] 25)) := (Ext.refl _).alloc _
    obtain ⟨c0, c1⟩ := tree_cells (Blk.new w 25 #[.slice pa P pc, .slice ka K kc])
    go_wp2
    go_ret
    exact ⟨rfl, hx0⟩
  · go_enter Try.func17, Try.ntmps17
    have hx0 : Ext w (w.alloc (.cells #[.slice pa 0 pc, .slice ka 1 kc] 25)) := (Ext.refl _).alloc _
    obtain ⟨c0, c1⟩ := tree_cells (Blk.new w 25 #[.slice pa 0 pc, .slice ka 1 kc])
    go_wp2
    go_ret
    exact ⟨rfl, hx0⟩
  · go_enter Try.func17, Try.ntmps17
    have hx0 : Ext w (w.alloc (.cells #[.slice pa 0 pc, .slice ka K kc] 25)) := (Ext.refl _).alloc _
    obtain ⟨c0, c1⟩ := tree_cells (Blk.new w 25 #[.slice pa 0 pc, .slice ka K kc])
    go_wp2
    go_ret
    exact ⟨rfl, hx0⟩
  · go_enter Try.func17, Try.ntmps17
    have hx0 : Ext w (w.alloc (.cells #[.slice pa P pc, .slice ka 0 kc] 25)) := (Ext.refl _).alloc _
    obtain ⟨c0, c1⟩ := tree_cells (Blk.new w 25 #[.slice pa P pc, .slice ka 0 kc])
    go_wp2
    go_ret
    exact ⟨rfl, hx0⟩

set_option maxRecDepth 100000 in
set_option maxHeartbeats 16000000 in
theorem rgoodTree_pairs (t : Tr) (pa ka : Option Addr) (P pc kc : Nat) (w : World) (h : TrAt w t pa ka P 0 pc kc) (hP4 : P ≤ 4) :
    Calls Try.prog 17 #[tra pa P pc ka 0 kc] w fun e w' => e = .returned (.bool ((List.range t.pairs.length).all (prOk t.pairs) && (List.range t.kids.length).all (kdOk t.kids))) ∧ Ext w w' := by
  have Hh := Lib.hid h
  have hbk := h.bk
  have hbp := h.bp
  clear h
  obtain ⟨RES, hRES⟩ : ∃ RES, RES = ((List.range t.pairs.length).all (prOk t.pairs) && (List.range t.kids.length).all (kdOk t.kids)) := ⟨_, rfl⟩
  rw [← hRES]
  have HRES := Lib.hid hRES
  clear hRES
  go_enter Try.func17, Try.ntmps17
  obtain ⟨w0, hw0⟩ : ∃ w0, w0 = w.alloc (.cells #[.slice pa P pc, .slice ka 0 kc] 25) := ⟨_, rfl⟩
  have hx0 : Ext w w0 := by rw [hw0]; exact (Ext.refl _).alloc _
  have Hbt := Lib.hid (show Blk w0 w.heap.size 25 #[.slice pa P pc, .slice ka 0 kc] from by rw [hw0]; exact Blk.new w _ _)
  go_upto_region 1 with (fail)
  rw [← hw0]
  clear hw0
  obtain ⟨c0, c1⟩ := tree_cells Hbt.out
  obtain ⟨g, hg1⟩ : ∃ g, g = w.heap.size := ⟨_, rfl⟩
  rw [← hg1] at c0 c1 Hbt ⊢
  clear hg1
  go_upto_region 5 with (fail)
  clear c0 c1
  go_loopw [41, 3] (fun i v wr => ∃ (k : Nat) (KA : Option Addr) (kcc : Nat), k ≤ P ∧ i = .int .i64 k ∧ v = .slice KA k kcc ∧ Hid (wr.ownsRow w0.heap.size 9 1 (.slice KA k kcc) k (sv ((t.pairs.take k).map (·.1)))) ∧ Aside ((List.range k).all (fun i => decide ((prAt t.pairs i).2.size ≤ 16)) = true) ∧ Ext w0 wr) (fun i _ _ => P - (intOf i).toNat)
  case atStart => exact ⟨0, none, 0, Nat.zero_le _, rfl, rfl, Lib.hid (World.ownsRow_nil _ _ _ _), rfl, Ext.refl _⟩
  case round =>
    obtain ⟨k, KA, kcc, hk, rfl, rfl, Hv, hA, hx⟩ := hrel
    have hxw : Ext w wr := hx0.trans hx
    by_cases hlt : k < P
    · have hkl : k < t.pairs.length := by rw [Hh.out.hp]; exact hlt
      obtain ⟨x, rfl, r0, r1⟩ := pr_row (Hh.out.cp.ext hxw) hkl
      have hsm := Hh.out.sp _ (List.getElem_mem hkl)
      have htk : (t.pairs.take k).map (·.1) ++ [t.pairs[k].1] = (t.pairs.take (k + 1)).map (·.1) := by rw [List.take_succ_eq_append_getElem hkl, List.map_append]; rfl
      have hpa := prAt_get hkl
      have hno : prOk t.pairs k = false → RES = false := fun hf => by rw [HRES.out, range_bad hkl hf, Bool.false_and]
      have hpk := prOk_key hkl
      obtain ⟨p, hp⟩ : ∃ p, p = t.pairs[k] := ⟨_, rfl⟩
      rw [← hp] at r0 r1 hsm htk hpa
      rw [hpa] at hpk
      have HTK := Lib.hid htk
      have HPA := Lib.hid hpa
      have HPK := Lib.hid hpk
      have HNO := Lib.hid hno
      obtain ⟨hs1, hs2⟩ := hsm
      clear hp htk hpa hpk hno
      have hlc : ∀ (j : Nat) (v : Value), (prC p)[j]? = some v → wr.cell? ((x.add (k * 2)).add j) = some v := by
        intro j v hj
        match j, hj with
        | 0, hj => cases hj; exact r0
        | 1, hj => cases hj; exact r1
        | n + 2, hj => cases hj
      go_upto_region 7 with (first
        | (refine wpList_load_row_ rfl 43 (.tmp 43) rfl (x.add (k * 2)) rfl (prC p) _ hlc Try.underlying43 rfl pr_info ?_)
        | (refine wpList_store_blk rfl 43 (.tmp 5) (.tmp 44) rfl rfl wr.heap.size (prC p).toArray rfl rfl _ _ (Blk.new wr _ _) rfl (by kernel_rfl) (prC_one p) ?_; intro w3 hb3 hg3; have hx3 : Ext wr w3 := ((Ext.refl _).alloc _).grown_ hg3 (by simp)))
      clear hlc r0 r1 hg3
      obtain ⟨p0, p1⟩ := pair_cells hb3
      clear hb3
      by_cases hbig : (16 : Int) < (p.2.size : Int)
      · have HF := Lib.hid (HNO.out (HPK.out.trans (by rw [decide_eq_false (by omega), Bool.false_and])))
        go_wp2
        go_ret
        exact ⟨ret_bool HF.out.symm, hxw.trans hx3⟩
      · have HT := Lib.hid (show (fun i => decide ((prAt t.pairs i).2.size ≤ 16)) k = true by show decide _ = true; rw [HPA.out]; exact decide_eq_true (by omega))
        go_wp2_with (at_builtin; refine wpList_plain rfl fun _ hK => wp_append _ (.tmp 49) (.tmp 52) 66 rfl w0.heap.size 9 (.string ByteArray.empty) 1 16 Try.underlying66 strI rfl (by decide) (.slice KA k kcc) k _ rfl (own_ext Hv.out (hx3.alloc _)) (some ⟨w3.heap.size, 0, none⟩) 1 1 [.string p.1] rfl rfl (Cells.lit rfl [.string p.1] _ _) (by intro u hu; simp only [List.mem_singleton] at hu; subst hu; rfl) (by simp only [maxLen]; omega) (by omega) ((hx.trans hx3).alloc _).size ?_; intro v5 w5 ho5 hg5 _; have hx5 : Ext w0 w5 := ((hx.trans hx3).alloc _).grown (own_ext Hv.out (hx3.alloc _)) hg5; obtain ⟨A5, c5, rfl, _, _, _⟩ := own_form ho5 (by decide); refine hK _ _ ?_)
        go_roundw
        case rel => exact ⟨k + 1, A5, c5, by omega, by go_num, rfl, Lib.hid (by rw [sv_snoc, HTK.out] at ho5; exact ho5), range_snoc hA.out HT.out, hx5⟩
        case measure => simp [intOf]; omega
    · obtain rfl : k = P := by omega
      have hk0 : t.kids = [] := List.eq_nil_of_length_eq_zero Hh.out.hk
      have hks : (t.pairs.take k).map (·.1) = t.pairs.map (·.1) := by rw [← Hh.out.hp, List.take_length]
      rw [hks] at Hv
      have hR : RES = (List.range k).all (keyOk (t.pairs.map (·.1))) := by
        rw [HRES.out, hk0, Hh.out.hp]
        simp only [List.length_nil, List.range_zero, List.all_nil, Bool.and_true]
        exact all_keys (fun i hi => prOk_key (by rw [Hh.out.hp]; exact hi)) hA.out
      have HSZ := Lib.hid (show ∀ s ∈ t.pairs.map (·.1), s.size ≤ 140737488351232 from fun s hs => by obtain ⟨p, hp, rfl⟩ := List.mem_map.1 hs; exact (Hh.out.sp p hp).1)
      have Hks := Lib.hid (show (t.pairs.map (·.1)).length = k by rw [List.length_map, Hh.out.hp])
      generalize t.pairs.map (·.1) = ks at Hv hR HSZ Hks
      have HR := Lib.hid hR
      clear hR hks hk0 hA hlt
      obtain ⟨c0, c1⟩ := tree_cells (Hbt.out.ext hx)
      go_upto_region 12 with (fail)
      clear c0 c1
      obtain ⟨w8, hw8⟩ : ∃ w8, w8 = wr := ⟨_, rfl⟩
      rw [← hw8] at Hv hxw ⊢
      clear hw8 hx
      go_loopw [58, 3] (fun i v' wr' => i = .int .i64 0 ∧ v' = .slice KA k kcc ∧ wr' = w8) (fun i _ _ => 0)
      case atStart => exact ⟨rfl, rfl, rfl⟩
      case round =>
        obtain ⟨rfl, rfl, rfl⟩ := hrel
        have HV := Hv
        clear Hv
        obtain ⟨gk, hgk⟩ := own_blk HV.out
        have HGK := Lib.hid hgk
        clear hgk
        go_upto_region 19 with (fail)
        obtain ⟨wk, hwk⟩ : ∃ wk, wk = wr := ⟨_, rfl⟩
        rw [← hwk] at HV hxw ⊢
        clear hwk
        go_loopw [86] (fun i wq => ∃ mm : Nat, mm ≤ k ∧ i = .int .i64 mm ∧ Aside ((List.range mm).all (keyOk ks) = true) ∧ wq = wk) (fun i _ => k - (intOf i).toNat)
        case atStart => exact ⟨0, Nat.zero_le _, rfl, rfl, rfl⟩
        case round =>
          obtain ⟨m, hm, rfl, hAk, rfl⟩ := hrel
          by_cases hlm : m < k
          · obtain ⟨rfl, _⟩ := HGK.out (by omega)
            have hml : m < ks.length := by rw [Hks.out]; exact hlm
            have hcm := own_row_cell HV.out (i := m) (v := .string ks[m]) (by simp [sv, hml])
            have hok : keyOk ks m = (decide (ks[m].size ≤ 16) && (m == 0 || bslt (keyAt ks (m - 1)) ks[m])) := by unfold keyOk; rw [keyAt_get hml]
            have hno : keyOk ks m = false → RES = false := fun hf => by rw [HR.out, range_bad hlm hf]
            obtain ⟨s, hs⟩ : ∃ s, s = ks[m] := ⟨_, rfl⟩
            rw [← hs] at hcm hok
            have HOK := Lib.hid hok
            have HNO := Lib.hid hno
            have hsb : s.size ≤ 140737488351232 := by rw [hs]; exact HSZ.out _ (List.getElem_mem hml)
            clear hs hok hno
            have hp0 : (0 : Int) ≤ (m : Int) := by omega
            have hp1 : (m : Int) < (k : Int) := by omega
            by_cases hbig : (16 : Int) < (s.size : Int)
            · have HF := Lib.hid (HNO.out (HOK.out.trans (by rw [decide_eq_false (by omega), Bool.false_and])))
              go_wp2
              go_ret
              exact ⟨ret_bool HF.out.symm, hxw⟩
            · rcases Nat.eq_zero_or_pos m with rfl | hpos
              · have HT := Lib.hid (HOK.out.trans (by rw [decide_eq_true (by omega)]; try rfl))
                go_wp2
                go_roundw
                case rel => exact ⟨1, by omega, by go_num, range_snoc hAk.out HT.out, by first | rfl | trivial⟩
                case measure => simp [intOf]; omega
              · obtain ⟨j, rfl⟩ : ∃ j, m = j + 1 := ⟨m - 1, by omega⟩
                have hjl : j < ks.length := by omega
                have hcj := own_row_cell HV.out (i := j) (v := .string ks[j]) (by simp [sv, hjl])
                have eq : keyAt ks (j + 1 - 1) = ks[j] := keyAt_get hjl
                obtain ⟨q, hq⟩ : ∃ q, q = ks[j] := ⟨_, rfl⟩
                rw [← hq] at hcj eq
                rw [eq, decide_eq_true (by omega), Bool.true_and] at HOK
                clear hq eq
                have e1 : ((j + 1 : Nat) : Int) - 1 = (j : Int) := by omega
                have hp2 : (0 : Int) < ((j + 1 : Nat) : Int) := by omega
                have hp3 : (0 : Int) ≤ (j : Int) := by omega
                have hp4 : (j : Int) < (k : Int) := by omega
                have hlt := less_tot q.toList s.toList
                cases hb : Op.bytesLess q.toList s.toList with
                | true =>
                  rw [hb, Bool.not_true] at hlt
                  obtain ⟨hl1, hl2⟩ := Bool.or_eq_false_iff.1 hlt.symm
                  clear hlt
                  have hl3 : ¬ s.toList = q.toList := beq_eq_false_iff_ne.1 hl2
                  have hl4 : (q.toList == s.toList) = false := by rw [beq_eq_false_iff_ne]; exact fun e => hl3 e.symm
                  have HT := Lib.hid (HOK.out.trans (by unfold bslt; rw [hb]; try rfl))
                  go_wp2
                  go_roundw
                  case rel => exact ⟨j + 1 + 1, by omega, by go_num, range_snoc hAk.out HT.out, by first | rfl | trivial⟩
                  case measure => simp [intOf]; omega
                | false =>
                  rw [hb, Bool.not_false, eq_comm] at hlt
                  have HF := Lib.hid (HNO.out (HOK.out.trans (by unfold bslt; rw [hb]; try rfl)))
                  cases hl1 : Op.bytesLess s.toList q.toList with
                  | true =>
                    clear hlt
                    go_wp2
                    go_ret
                    exact ⟨ret_bool HF.out.symm, hxw⟩
                  | false =>
                    rw [hl1, Bool.false_or, beq_iff_eq] at hlt
                    have hl2 : (s.toList == q.toList) = true := beq_iff_eq.2 hlt
                    clear hlt
                    go_wp2
                    go_ret
                    exact ⟨ret_bool HF.out.symm, hxw⟩
          · obtain rfl : m = k := by omega
            have HT := Lib.hid (HR.out.trans hAk.out)
            go_wp2
            go_ret
            exact ⟨ret_bool HT.out.symm, hxw⟩

set_option maxRecDepth 100000 in
set_option maxHeartbeats 16000000 in
theorem rgoodTree_kids (t : Tr) (pa ka : Option Addr) (K pc kc : Nat) (w : World) (h : TrAt w t pa ka 0 K pc kc) (hK3 : K ≤ 3) (hK2 : 2 ≤ K) :
    Calls Try.prog 17 #[tra pa 0 pc ka K kc] w fun e w' => e = .returned (.bool ((List.range t.pairs.length).all (prOk t.pairs) && (List.range t.kids.length).all (kdOk t.kids))) ∧ Ext w w' := by
  have Hh := Lib.hid h
  have hbk := h.bk
  have hbp := h.bp
  clear h
  obtain ⟨RES, hRES⟩ : ∃ RES, RES = ((List.range t.pairs.length).all (prOk t.pairs) && (List.range t.kids.length).all (kdOk t.kids)) := ⟨_, rfl⟩
  rw [← hRES]
  have HRES := Lib.hid hRES
  clear hRES
  go_enter Try.func17, Try.ntmps17
  obtain ⟨w0, hw0⟩ : ∃ w0, w0 = w.alloc (.cells #[.slice pa 0 pc, .slice ka K kc] 25) := ⟨_, rfl⟩
  have hx0 : Ext w w0 := by rw [hw0]; exact (Ext.refl _).alloc _
  have Hbt := Lib.hid (show Blk w0 w.heap.size 25 #[.slice pa 0 pc, .slice ka K kc] from by rw [hw0]; exact Blk.new w _ _)
  go_upto_region 1 with (fail)
  rw [← hw0]
  clear hw0
  obtain ⟨c0, c1⟩ := tree_cells Hbt.out
  obtain ⟨g, hg1⟩ : ∃ g, g = w.heap.size := ⟨_, rfl⟩
  rw [← hg1] at c0 c1 Hbt ⊢
  clear hg1
  have hp0 : t.pairs = [] := List.eq_nil_of_length_eq_zero Hh.out.hp
  have HRES2 := Lib.hid (show RES = (List.range t.kids.length).all (kdOk t.kids) by rw [HRES.out, hp0]; rfl)
  have h0l : 0 < t.kids.length := by rw [Hh.out.hk]; omega
  have hka := kdAt_get h0l
  obtain ⟨q0, hq0⟩ : ∃ q0, q0 = t.kids[0] := ⟨_, rfl⟩
  rw [← hq0] at hka
  have HKA := Lib.hid hka
  have HQ0 := Lib.hid hq0
  have HQ0L := Lib.hid (show q0.2.length = 33 by rw [hq0]; exact (Hh.out.sk _ (List.getElem_mem h0l)).2)
  have HK0 := Lib.hid (show 0 < K by omega)
  clear HRES hp0 hka hq0
  go_upto_region 5 with (fail)
  go_loopw [41, 3] (fun i v wr => i = .int .i64 0 ∧ v = .slice none 0 0 ∧ wr = w0) (fun i _ _ => 0)
  case atStart => exact ⟨rfl, rfl, rfl⟩
  case round =>
    obtain ⟨rfl, rfl, rfl⟩ := hrel
    go_upto_region 12 with (fail)
    clear c0 c1
    obtain ⟨w0, hw0⟩ : ∃ w0, w0 = wr := ⟨_, rfl⟩
    rw [← hw0] at hx0 Hbt ⊢
    clear hw0
    go_loopw [58, 3] (fun i v wr => ∃ (k : Nat) (KA : Option Addr) (kcc : Nat), k ≤ K ∧ i = .int .i64 k ∧ v = .slice KA k kcc ∧ Hid (wr.ownsRow w0.heap.size 9 1 (.slice KA k kcc) k (sv ((t.kids.take k).map (·.1)))) ∧ Aside ((List.range k).all (fun i => idGood (kdAt t.kids i).2 && idKind (kdAt t.kids i).2 == idKind (kdAt t.kids 0).2) = true) ∧ Ext w0 wr) (fun i _ _ => K - (intOf i).toNat)
    case atStart => exact ⟨0, none, 0, Nat.zero_le _, rfl, rfl, Lib.hid (World.ownsRow_nil _ _ _ _), rfl, Ext.refl _⟩
    case round =>
      obtain ⟨k, KA, kcc, hk, rfl, rfl, Hv, hA, hx⟩ := hrel
      have hxw : Ext w wr := hx0.trans hx
      by_cases hlt : k < K
      · have hkl : k < t.kids.length := by rw [Hh.out.hk]; exact hlt
        obtain ⟨x, rfl, _, _, hlc⟩ := kd_row (Hh.out.ck.ext hxw) hkl
        obtain ⟨x', hx', _, hq0c, _⟩ := kd_row (Hh.out.ck.ext hxw) h0l
        cases hx'
        rw [← HQ0.out] at hq0c
        have HQ0C := Lib.hid hq0c
        obtain ⟨hs1, hql⟩ := Hh.out.sk _ (List.getElem_mem hkl)
        have htk : (t.kids.take k).map (·.1) ++ [t.kids[k].1] = (t.kids.take (k + 1)).map (·.1) := by rw [List.take_succ_eq_append_getElem hkl, List.map_append]; rfl
        have hpa := kdAt_get hkl
        have hno : kdOk t.kids k = false → RES = false := fun hf => by rw [HRES2.out, range_bad hkl hf]
        have hpk := kdOk_key hkl
        obtain ⟨q, hq⟩ : ∃ q, q = t.kids[k] := ⟨_, rfl⟩
        rw [← hq] at hlc hs1 hql htk hpa
        rw [hpa, HKA.out] at hpk
        have HTK := Lib.hid htk
        have HPA := Lib.hid hpa
        have HKK := Lib.hid hpk
        have HNO := Lib.hid hno
        have HQL := Lib.hid hql
        have HNM := Lib.hid (fun w' => rname_calls q.2 w' hql)
        unfold idv at HNM
        clear hq htk hpa hpk hno hql hq0c
        go_upto_region 14 with (first
          | (refine wpList_load_row_ rfl 59 (.tmp 60) rfl (x.add (k * 34)) rfl (kdC q) _ hlc Try.underlying59 rfl (by rw [kd_info, kdC_len HQL.out]) ?_)
          | (refine wpList_store_blk rfl 59 (.tmp 7) (.tmp 61) rfl rfl wr.heap.size (kdC q).toArray rfl rfl _ _ (Blk.new wr _ _) (by rw [List.size_toArray, kdC_len HQL.out]; rfl) (by kernel_rfl) (kdC_one q) ?_; intro w3 hb3 hg3; have hx3 : Ext wr w3 := ((Ext.refl _).alloc _).grown_ hg3 (by simp)))
        clear hlc hg3
        obtain ⟨gq, hgq⟩ : ∃ gq, gq = wr.heap.size := ⟨_, rfl⟩
        rw [← hgq] at hb3 ⊢
        have HB3 := Lib.hid hb3
        clear hgq hb3
        cases hgd : idGood q.2 with
        | false =>
          rw [hgd] at HKK
          have ht := idText_none hgd
          have HE1 := Lib.hid (show (bstr (idText q.2)).toList.isEmpty = true by rw [ht, bstr_nil_list]; rfl)
          have HE2 := Lib.hid (show (bstr (idText q.2)).toList = [] by rw [ht, bstr_nil_list])
          clear ht hgd
          refine wp_region_ops (FInv [62, 63, 64, 65, 66, 67, 68, 69, 70, 71, 72, 73, 74, 75, 76, 77] _ w3.drew [⟨0, none, 62, .val (.pointer (some ⟨gq, 1, none⟩))⟩, ⟨1, none, 63, .val (.agg (bv q.2).toArray)⟩, ⟨2, none, 64, .val (.string (bstr (idText q.2)))⟩, ⟨3, none, 65, .val (.bool true)⟩, ⟨4, none, 66, .val (.bool true)⟩, ⟨5, none, 67, .val undef⟩, ⟨6, none, 68, .val undef⟩, ⟨7, none, 69, .val undef⟩, ⟨8, none, 70, .val undef⟩, ⟨9, none, 71, .val undef⟩, ⟨10, none, 72, .val undef⟩, ⟨11, none, 73, .val undef⟩, ⟨12, none, 74, .val undef⟩, ⟨13, none, 75, .val undef⟩, ⟨14, none, 76, .val undef⟩, ⟨15, none, 77, .val (.bool true)⟩]) (by kernel_rfl) (by kernel_rfl) FInv.start ?_ ?_
          · refine ⟨?o0, ?o1, ?o2, ?o3, ?o4, ?o5, ?o6, ?o7, ?o8, ?o9, ?o10, ?o11, ?o12, ?o13, ?o14, ?o15, trivial⟩
            case o0 =>
              intro f a u h hfi hp hq
              exact h.yieldG rfl (wanted_none rfl) 62 rfl (by change 62 < 106; decide) rfl _ rfl (run_of_sem rfl (by rw [(show a.eval (.tmp 7) = .pointer (some ⟨gq, 0, none⟩) from h.agree.eval (by decide))]; exact f_kid1 _ _))
            case o1 =>
              intro f a u h hfi hp hq
              have hyu : Ext w3 u := ((Ext.refl w3).drew).trans h.ext
              exact h.yieldG rfl (wanted_none rfl) 63 rfl (by change 63 < 106; decide) rfl _ rfl (run_of_sem rfl (by rw [h.at_ 0 rfl (pre_of hp 0 rfl)]; exact ld_id HQL.out (kid_cells (HB3.out.ext hyu)).2))
            case o2 =>
              intro f a u h hfi hp hq
              exact h.callG rfl (wanted_none rfl) 64 rfl (by change 64 < 106; decide) rfl _ rfl 30 #[.tmp 63] #[28] _ rfl (by kernel_rfl) (by rw [arr1, h.at_ 1 rfl (pre_of hp 1 rfl)]) (HNM.out u)
            case o3 =>
              intro f a u h hfi hp hq
              have z1 := HE1.out
              have z2 := HE2.out
              have q64 := h.att 2 rfl (pre_of hp 2 rfl)
              exact h.yieldG rfl (wanted_none rfl) 65 rfl (by change 65 < 106; decide) rfl _ rfl (by go_simp)
            case o4 =>
              intro f a u h hfi hp hq
              have q65 := h.att 3 rfl (pre_of hp 3 rfl)
              exact h.yieldG rfl (wanted_none rfl) 66 rfl (by change 66 < 106; decide) rfl _ rfl (by go_simp)
            case o5 =>
              intro f a u h hfi hp hq
              exact h.skipG rfl (wanted_not (g := 4) (d' := 66) rfl rfl (h.at_ 4 rfl (pre_of hp 4 rfl)) rfl) 67 rfl (by change 67 < 106; decide) rfl rfl
            case o6 =>
              intro f a u h hfi hp hq
              exact h.skipG rfl (wanted_not (g := 4) (d' := 66) rfl rfl (h.at_ 4 rfl (pre_of hp 4 rfl)) rfl) 68 rfl (by change 68 < 106; decide) rfl rfl
            case o7 =>
              intro f a u h hfi hp hq
              exact h.skipG rfl (wanted_not (g := 4) (d' := 66) rfl rfl (h.at_ 4 rfl (pre_of hp 4 rfl)) rfl) 69 rfl (by change 69 < 106; decide) rfl rfl
            case o8 =>
              intro f a u h hfi hp hq
              exact h.skipG rfl (wanted_not (g := 4) (d' := 66) rfl rfl (h.at_ 4 rfl (pre_of hp 4 rfl)) rfl) 70 rfl (by change 70 < 106; decide) rfl rfl
            case o9 =>
              intro f a u h hfi hp hq
              exact h.skipG rfl (wanted_not (g := 4) (d' := 66) rfl rfl (h.at_ 4 rfl (pre_of hp 4 rfl)) rfl) 71 rfl (by change 71 < 106; decide) rfl rfl
            case o10 =>
              intro f a u h hfi hp hq
              exact h.skipG rfl (wanted_not (g := 4) (d' := 66) rfl rfl (h.at_ 4 rfl (pre_of hp 4 rfl)) rfl) 72 rfl (by change 72 < 106; decide) rfl rfl
            case o11 =>
              intro f a u h hfi hp hq
              exact h.skipG rfl (wanted_not (g := 4) (d' := 66) rfl rfl (h.at_ 4 rfl (pre_of hp 4 rfl)) rfl) 73 rfl (by change 73 < 106; decide) rfl rfl
            case o12 =>
              intro f a u h hfi hp hq
              exact h.skipG rfl (wanted_not (g := 4) (d' := 66) rfl rfl (h.at_ 4 rfl (pre_of hp 4 rfl)) rfl) 74 rfl (by change 74 < 106; decide) rfl rfl
            case o13 =>
              intro f a u h hfi hp hq
              exact h.skipG rfl (wanted_not (g := 4) (d' := 66) rfl rfl (h.at_ 4 rfl (pre_of hp 4 rfl)) rfl) 75 rfl (by change 75 < 106; decide) rfl rfl
            case o14 =>
              intro f a u h hfi hp hq
              exact h.skipG rfl (wanted_not (g := 4) (d' := 66) rfl rfl (h.at_ 4 rfl (pre_of hp 4 rfl)) rfl) 76 rfl (by change 76 < 106; decide) rfl rfl
            case o15 =>
              intro f a u h hfi hp hq
              have q66 := h.att 4 rfl (pre_of hp 4 rfl)
              have q76 := h.att 14 rfl (pre_of hp 14 rfl)
              exact h.yieldG rfl (wanted_none rfl) 77 rfl (by change 77 < 106; decide) rfl _ rfl (by go_simp)
          · intro f a u h hall hfar
            have hyu : Ext w3 u := ((Ext.refl w3).drew).trans h.ext
            have e77 := h.at_ 15 rfl (hall 15 (by decide))
            have hag := h.agree.out
            simp only [List.foldl_cons, List.foldl_nil, Act.put, List.setIfInBounds_toArray, List.set_cons_zero, List.set_cons_succ, e77] at hag
            generalize a.eval (.tmp 62) = y62 at hag
            generalize a.eval (.tmp 63) = y63 at hag
            generalize a.eval (.tmp 64) = y64 at hag
            generalize a.eval (.tmp 65) = y65 at hag
            generalize a.eval (.tmp 66) = y66 at hag
            generalize a.eval (.tmp 67) = y67 at hag
            generalize a.eval (.tmp 68) = y68 at hag
            generalize a.eval (.tmp 69) = y69 at hag
            generalize a.eval (.tmp 70) = y70 at hag
            generalize a.eval (.tmp 71) = y71 at hag
            generalize a.eval (.tmp 72) = y72 at hag
            generalize a.eval (.tmp 73) = y73 at hag
            generalize a.eval (.tmp 74) = y74 at hag
            generalize a.eval (.tmp 75) = y75 at hag
            generalize a.eval (.tmp 76) = y76 at hag
            clear h hall hfar e77
            subst hag
            have HF := Lib.hid (HNO.out (HKK.out.trans (by simp)))
            go_wp2
            go_ret
            exact ⟨ret_bool HF.out.symm, hxw.trans (hx3.trans hyu)⟩
        | true =>
          rw [hgd, Bool.true_and] at HKK
          obtain ⟨b0, bl, ht⟩ := idText_some HQL.out hgd
          have HE1 := Lib.hid (show (bstr (idText q.2)).toList.isEmpty = false by rw [ht]; exact isEmpty_bstr _ _)
          have HE2 := Lib.hid (show ¬ (bstr (idText q.2)).toList = [] by rw [ht]; exact bstr_ne _ _)
          have Hgd := Lib.hid hgd
          clear ht hgd
          cases hkd : (idKind q.2 == idKind q0.2) with
          | false =>
            rw [hkd] at HKK
            have HKD := Lib.hid (show (((idKind q.2).toNat : Int) != ((idKind q0.2).toNat : Int)) = true from bne_iff_ne.2 (fun e => beq_eq_false_iff_ne.1 hkd (UInt8.toNat_inj.1 (by omega))))
            clear hkd
            refine wp_region_ops (FInv [62, 63, 64, 65, 66, 67, 68, 69, 70, 71, 72, 73, 74, 75, 76, 77] _ w3.drew [⟨0, none, 62, .val (.pointer (some ⟨gq, 1, none⟩))⟩, ⟨1, none, 63, .val (.agg (bv q.2).toArray)⟩, ⟨2, none, 64, .val (.string (bstr (idText q.2)))⟩, ⟨3, none, 65, .val (.bool false)⟩, ⟨4, none, 66, .val (.bool false)⟩, ⟨5, none, 67, .val (.pointer (some ⟨gq, 1, none⟩))⟩, ⟨6, none, 68, .val (.pointer (some ⟨gq, 1, none⟩))⟩, ⟨7, none, 69, .val (.int .u8 (idKind q.2).toNat)⟩, ⟨8, none, 70, .val (.pointer (some ⟨g, 1, none⟩))⟩, ⟨9, none, 71, .val (.slice (some x) K kc)⟩, ⟨10, none, 72, .val (.pointer (some (x.add (0 * 34))))⟩, ⟨11, none, 73, .val (.pointer (some ((x.add (0 * 34)).add 1)))⟩, ⟨12, none, 74, .val (.pointer (some ((x.add (0 * 34)).add 1)))⟩, ⟨13, none, 75, .val (.int .u8 (idKind q0.2).toNat)⟩, ⟨14, none, 76, .val (.bool true)⟩, ⟨15, none, 77, .val (.bool true)⟩]) (by kernel_rfl) (by kernel_rfl) FInv.start ?_ ?_
            · refine ⟨?o0, ?o1, ?o2, ?o3, ?o4, ?o5, ?o6, ?o7, ?o8, ?o9, ?o10, ?o11, ?o12, ?o13, ?o14, ?o15, trivial⟩
              case o0 =>
                intro f a u h hfi hp hq
                exact h.yieldG rfl (wanted_none rfl) 62 rfl (by change 62 < 106; decide) rfl _ rfl (run_of_sem rfl (by rw [(show a.eval (.tmp 7) = .pointer (some ⟨gq, 0, none⟩) from h.agree.eval (by decide))]; exact f_kid1 _ _))
              case o1 =>
                intro f a u h hfi hp hq
                have hyu : Ext w3 u := ((Ext.refl w3).drew).trans h.ext
                exact h.yieldG rfl (wanted_none rfl) 63 rfl (by change 63 < 106; decide) rfl _ rfl (run_of_sem rfl (by rw [h.at_ 0 rfl (pre_of hp 0 rfl)]; exact ld_id HQL.out (kid_cells (HB3.out.ext hyu)).2))
              case o2 =>
                intro f a u h hfi hp hq
                exact h.callG rfl (wanted_none rfl) 64 rfl (by change 64 < 106; decide) rfl _ rfl 30 #[.tmp 63] #[28] _ rfl (by kernel_rfl) (by rw [arr1, h.at_ 1 rfl (pre_of hp 1 rfl)]) (HNM.out u)
              case o3 =>
                intro f a u h hfi hp hq
                have z1 := HE1.out
                have z2 := HE2.out
                have q64 := h.att 2 rfl (pre_of hp 2 rfl)
                exact h.yieldG rfl (wanted_none rfl) 65 rfl (by change 65 < 106; decide) rfl _ rfl (by go_simp)
              case o4 =>
                intro f a u h hfi hp hq
                have q65 := h.att 3 rfl (pre_of hp 3 rfl)
                exact h.yieldG rfl (wanted_none rfl) 66 rfl (by change 66 < 106; decide) rfl _ rfl (by go_simp)
              case o5 =>
                intro f a u h hfi hp hq
                exact h.yieldG rfl (wanted_yes (g := 4) (d' := 66) rfl rfl (h.at_ 4 rfl (pre_of hp 4 rfl))) 67 rfl (by change 67 < 106; decide) rfl _ rfl (run_of_sem rfl (by rw [(show a.eval (.tmp 7) = .pointer (some ⟨gq, 0, none⟩) from h.agree.eval (by decide))]; exact f_kid1 _ _))
              case o6 =>
                intro f a u h hfi hp hq
                exact h.yieldG rfl (wanted_yes (g := 4) (d' := 66) rfl rfl (h.at_ 4 rfl (pre_of hp 4 rfl))) 68 rfl (by change 68 < 106; decide) rfl _ rfl (run_of_sem rfl (by rw [h.at_ 5 rfl (pre_of hp 5 rfl)]; exact f_id0 _ _))
              case o7 =>
                intro f a u h hfi hp hq
                have hyu : Ext w3 u := ((Ext.refl w3).drew).trans h.ext
                exact h.yieldG rfl (wanted_yes (g := 4) (d' := 66) rfl rfl (h.at_ 4 rfl (pre_of hp 4 rfl))) 69 rfl (by change 69 < 106; decide) rfl _ rfl (run_of_sem rfl (by rw [h.at_ 6 rfl (pre_of hp 6 rfl)]; exact ld_u8 (Cells.head (kid_cells (HB3.out.ext hyu)).2 (by rw [HQL.out]; decide))))
              case o8 =>
                intro f a u h hfi hp hq
                exact h.yieldG rfl (wanted_yes (g := 4) (d' := 66) rfl rfl (h.at_ 4 rfl (pre_of hp 4 rfl))) 70 rfl (by change 70 < 106; decide) rfl _ rfl (run_of_sem rfl (by rw [(show a.eval (.tmp 1) = .pointer (some ⟨g, 0, none⟩) from h.agree.eval (by decide))]; exact f_tree1 _ _))
              case o9 =>
                intro f a u h hfi hp hq
                have hyu : Ext w3 u := ((Ext.refl w3).drew).trans h.ext
                exact h.yieldG rfl (wanted_yes (g := 4) (d' := 66) rfl rfl (h.at_ 4 rfl (pre_of hp 4 rfl))) 71 rfl (by change 71 < 106; decide) rfl _ rfl (run_of_sem rfl (by rw [h.at_ 8 rfl (pre_of hp 8 rfl)]; exact ld_kids (tree_cells (Hbt.out.ext (hx.trans (hx3.trans hyu)))).2))
              case o10 =>
                intro f a u h hfi hp hq
                exact h.yieldG rfl (wanted_yes (g := 4) (d' := 66) rfl rfl (h.at_ 4 rfl (pre_of hp 4 rfl))) 72 rfl (by change 72 < 106; decide) rfl _ rfl (run_of_sem rfl (by rw [h.at_ 9 rfl (pre_of hp 9 rfl)]; exact ix_kid (by rfl) HK0.out))
              case o11 =>
                intro f a u h hfi hp hq
                exact h.yieldG rfl (wanted_yes (g := 4) (d' := 66) rfl rfl (h.at_ 4 rfl (pre_of hp 4 rfl))) 73 rfl (by change 73 < 106; decide) rfl _ rfl (run_of_sem rfl (by rw [h.at_ 10 rfl (pre_of hp 10 rfl)]; exact f_kid1 _ _))
              case o12 =>
                intro f a u h hfi hp hq
                exact h.yieldG rfl (wanted_yes (g := 4) (d' := 66) rfl rfl (h.at_ 4 rfl (pre_of hp 4 rfl))) 74 rfl (by change 74 < 106; decide) rfl _ rfl (run_of_sem rfl (by rw [h.at_ 11 rfl (pre_of hp 11 rfl)]; exact f_id0 _ _))
              case o13 =>
                intro f a u h hfi hp hq
                have hyu : Ext w3 u := ((Ext.refl w3).drew).trans h.ext
                exact h.yieldG rfl (wanted_yes (g := 4) (d' := 66) rfl rfl (h.at_ 4 rfl (pre_of hp 4 rfl))) 75 rfl (by change 75 < 106; decide) rfl _ rfl (run_of_sem rfl (by rw [h.at_ 12 rfl (pre_of hp 12 rfl)]; exact ld_u8 (Cells.head (HQ0C.out.ext (hx3.trans hyu)) (by rw [HQ0L.out]; decide))))
              case o14 =>
                intro f a u h hfi hp hq
                have z1 := HKD.out
                have q69 := h.att 7 rfl (pre_of hp 7 rfl)
                have q75 := h.att 13 rfl (pre_of hp 13 rfl)
                exact h.yieldG rfl (wanted_yes (g := 4) (d' := 66) rfl rfl (h.at_ 4 rfl (pre_of hp 4 rfl))) 76 rfl (by change 76 < 106; decide) rfl _ rfl (by go_simp)
              case o15 =>
                intro f a u h hfi hp hq
                have q66 := h.att 4 rfl (pre_of hp 4 rfl)
                have q76 := h.att 14 rfl (pre_of hp 14 rfl)
                exact h.yieldG rfl (wanted_none rfl) 77 rfl (by change 77 < 106; decide) rfl _ rfl (by go_simp)
            · intro f a u h hall hfar
              have hyu : Ext w3 u := ((Ext.refl w3).drew).trans h.ext
              have e77 := h.at_ 15 rfl (hall 15 (by decide))
              have hag := h.agree.out
              simp only [List.foldl_cons, List.foldl_nil, Act.put, List.setIfInBounds_toArray, List.set_cons_zero, List.set_cons_succ, e77] at hag
              generalize a.eval (.tmp 62) = y62 at hag
              generalize a.eval (.tmp 63) = y63 at hag
              generalize a.eval (.tmp 64) = y64 at hag
              generalize a.eval (.tmp 65) = y65 at hag
              generalize a.eval (.tmp 66) = y66 at hag
              generalize a.eval (.tmp 67) = y67 at hag
              generalize a.eval (.tmp 68) = y68 at hag
              generalize a.eval (.tmp 69) = y69 at hag
              generalize a.eval (.tmp 70) = y70 at hag
              generalize a.eval (.tmp 71) = y71 at hag
              generalize a.eval (.tmp 72) = y72 at hag
              generalize a.eval (.tmp 73) = y73 at hag
              generalize a.eval (.tmp 74) = y74 at hag
              generalize a.eval (.tmp 75) = y75 at hag
              generalize a.eval (.tmp 76) = y76 at hag
              clear h hall hfar e77
              subst hag
              have HF := Lib.hid (HNO.out (HKK.out.trans (by rw [Bool.false_and])))
              go_wp2
              go_ret
              exact ⟨ret_bool HF.out.symm, hxw.trans (hx3.trans hyu)⟩
          | true =>
            have hkd' := beq_iff_eq.1 hkd
            have HKD := Lib.hid (show (((idKind q.2).toNat : Int) != ((idKind q0.2).toNat : Int)) = false from by rw [hkd']; simp)
            have HT := Lib.hid (show (fun i => idGood (kdAt t.kids i).2 && idKind (kdAt t.kids i).2 == idKind (kdAt t.kids 0).2) k = true by show (_ && _) = true; rw [HPA.out, HKA.out, Hgd.out, hkd]; rfl)
            clear hkd hkd'
            refine wp_region_ops (FInv [62, 63, 64, 65, 66, 67, 68, 69, 70, 71, 72, 73, 74, 75, 76, 77] _ w3.drew [⟨0, none, 62, .val (.pointer (some ⟨gq, 1, none⟩))⟩, ⟨1, none, 63, .val (.agg (bv q.2).toArray)⟩, ⟨2, none, 64, .val (.string (bstr (idText q.2)))⟩, ⟨3, none, 65, .val (.bool false)⟩, ⟨4, none, 66, .val (.bool false)⟩, ⟨5, none, 67, .val (.pointer (some ⟨gq, 1, none⟩))⟩, ⟨6, none, 68, .val (.pointer (some ⟨gq, 1, none⟩))⟩, ⟨7, none, 69, .val (.int .u8 (idKind q.2).toNat)⟩, ⟨8, none, 70, .val (.pointer (some ⟨g, 1, none⟩))⟩, ⟨9, none, 71, .val (.slice (some x) K kc)⟩, ⟨10, none, 72, .val (.pointer (some (x.add (0 * 34))))⟩, ⟨11, none, 73, .val (.pointer (some ((x.add (0 * 34)).add 1)))⟩, ⟨12, none, 74, .val (.pointer (some ((x.add (0 * 34)).add 1)))⟩, ⟨13, none, 75, .val (.int .u8 (idKind q0.2).toNat)⟩, ⟨14, none, 76, .val (.bool false)⟩, ⟨15, none, 77, .val (.bool false)⟩]) (by kernel_rfl) (by kernel_rfl) FInv.start ?_ ?_
            · refine ⟨?o0, ?o1, ?o2, ?o3, ?o4, ?o5, ?o6, ?o7, ?o8, ?o9, ?o10, ?o11, ?o12, ?o13, ?o14, ?o15, trivial⟩
              case o0 =>
                intro f a u h hfi hp hq
                exact h.yieldG rfl (wanted_none rfl) 62 rfl (by change 62 < 106; decide) rfl _ rfl (run_of_sem rfl (by rw [(show a.eval (.tmp 7) = .pointer (some ⟨gq, 0, none⟩) from h.agree.eval (by decide))]; exact f_kid1 _ _))
              case o1 =>
                intro f a u h hfi hp hq
                have hyu : Ext w3 u := ((Ext.refl w3).drew).trans h.ext
                exact h.yieldG rfl (wanted_none rfl) 63 rfl (by change 63 < 106; decide) rfl _ rfl (run_of_sem rfl (by rw [h.at_ 0 rfl (pre_of hp 0 rfl)]; exact ld_id HQL.out (kid_cells (HB3.out.ext hyu)).2))
              case o2 =>
                intro f a u h hfi hp hq
                exact h.callG rfl (wanted_none rfl) 64 rfl (by change 64 < 106; decide) rfl _ rfl 30 #[.tmp 63] #[28] _ rfl (by kernel_rfl) (by rw [arr1, h.at_ 1 rfl (pre_of hp 1 rfl)]) (HNM.out u)
              case o3 =>
                intro f a u h hfi hp hq
                have z1 := HE1.out
                have z2 := HE2.out
                have q64 := h.att 2 rfl (pre_of hp 2 rfl)
                exact h.yieldG rfl (wanted_none rfl) 65 rfl (by change 65 < 106; decide) rfl _ rfl (by go_simp)
              case o4 =>
                intro f a u h hfi hp hq
                have q65 := h.att 3 rfl (pre_of hp 3 rfl)
                exact h.yieldG rfl (wanted_none rfl) 66 rfl (by change 66 < 106; decide) rfl _ rfl (by go_simp)
              case o5 =>
                intro f a u h hfi hp hq
                exact h.yieldG rfl (wanted_yes (g := 4) (d' := 66) rfl rfl (h.at_ 4 rfl (pre_of hp 4 rfl))) 67 rfl (by change 67 < 106; decide) rfl _ rfl (run_of_sem rfl (by rw [(show a.eval (.tmp 7) = .pointer (some ⟨gq, 0, none⟩) from h.agree.eval (by decide))]; exact f_kid1 _ _))
              case o6 =>
                intro f a u h hfi hp hq
                exact h.yieldG rfl (wanted_yes (g := 4) (d' := 66) rfl rfl (h.at_ 4 rfl (pre_of hp 4 rfl))) 68 rfl (by change 68 < 106; decide) rfl _ rfl (run_of_sem rfl (by rw [h.at_ 5 rfl (pre_of hp 5 rfl)]; exact f_id0 _ _))
              case o7 =>
                intro f a u h hfi hp hq
                have hyu : Ext w3 u := ((Ext.refl w3).drew).trans h.ext
                exact h.yieldG rfl (wanted_yes (g := 4) (d' := 66) rfl rfl (h.at_ 4 rfl (pre_of hp 4 rfl))) 69 rfl (by change 69 < 106; decide) rfl _ rfl (run_of_sem rfl (by rw [h.at_ 6 rfl (pre_of hp 6 rfl)]; exact ld_u8 (Cells.head (kid_cells (HB3.out.ext hyu)).2 (by rw [HQL.out]; decide))))
              case o8 =>
                intro f a u h hfi hp hq
                exact h.yieldG rfl (wanted_yes (g := 4) (d' := 66) rfl rfl (h.at_ 4 rfl (pre_of hp 4 rfl))) 70 rfl (by change 70 < 106; decide) rfl _ rfl (run_of_sem rfl (by rw [(show a.eval (.tmp 1) = .pointer (some ⟨g, 0, none⟩) from h.agree.eval (by decide))]; exact f_tree1 _ _))
              case o9 =>
                intro f a u h hfi hp hq
                have hyu : Ext w3 u := ((Ext.refl w3).drew).trans h.ext
                exact h.yieldG rfl (wanted_yes (g := 4) (d' := 66) rfl rfl (h.at_ 4 rfl (pre_of hp 4 rfl))) 71 rfl (by change 71 < 106; decide) rfl _ rfl (run_of_sem rfl (by rw [h.at_ 8 rfl (pre_of hp 8 rfl)]; exact ld_kids (tree_cells (Hbt.out.ext (hx.trans (hx3.trans hyu)))).2))
              case o10 =>
                intro f a u h hfi hp hq
                exact h.yieldG rfl (wanted_yes (g := 4) (d' := 66) rfl rfl (h.at_ 4 rfl (pre_of hp 4 rfl))) 72 rfl (by change 72 < 106; decide) rfl _ rfl (run_of_sem rfl (by rw [h.at_ 9 rfl (pre_of hp 9 rfl)]; exact ix_kid (by rfl) HK0.out))
              case o11 =>
                intro f a u h hfi hp hq
                exact h.yieldG rfl (wanted_yes (g := 4) (d' := 66) rfl rfl (h.at_ 4 rfl (pre_of hp 4 rfl))) 73 rfl (by change 73 < 106; decide) rfl _ rfl (run_of_sem rfl (by rw [h.at_ 10 rfl (pre_of hp 10 rfl)]; exact f_kid1 _ _))
              case o12 =>
                intro f a u h hfi hp hq
                exact h.yieldG rfl (wanted_yes (g := 4) (d' := 66) rfl rfl (h.at_ 4 rfl (pre_of hp 4 rfl))) 74 rfl (by change 74 < 106; decide) rfl _ rfl (run_of_sem rfl (by rw [h.at_ 11 rfl (pre_of hp 11 rfl)]; exact f_id0 _ _))
              case o13 =>
                intro f a u h hfi hp hq
                have hyu : Ext w3 u := ((Ext.refl w3).drew).trans h.ext
                exact h.yieldG rfl (wanted_yes (g := 4) (d' := 66) rfl rfl (h.at_ 4 rfl (pre_of hp 4 rfl))) 75 rfl (by change 75 < 106; decide) rfl _ rfl (run_of_sem rfl (by rw [h.at_ 12 rfl (pre_of hp 12 rfl)]; exact ld_u8 (Cells.head (HQ0C.out.ext (hx3.trans hyu)) (by rw [HQ0L.out]; decide))))
              case o14 =>
                intro f a u h hfi hp hq
                have z1 := HKD.out
                have q69 := h.att 7 rfl (pre_of hp 7 rfl)
                have q75 := h.att 13 rfl (pre_of hp 13 rfl)
                exact h.yieldG rfl (wanted_yes (g := 4) (d' := 66) rfl rfl (h.at_ 4 rfl (pre_of hp 4 rfl))) 76 rfl (by change 76 < 106; decide) rfl _ rfl (by go_simp)
              case o15 =>
                intro f a u h hfi hp hq
                have q66 := h.att 4 rfl (pre_of hp 4 rfl)
                have q76 := h.att 14 rfl (pre_of hp 14 rfl)
                exact h.yieldG rfl (wanted_none rfl) 77 rfl (by change 77 < 106; decide) rfl _ rfl (by go_simp)
            · intro f a u h hall hfar
              have hyu : Ext w3 u := ((Ext.refl w3).drew).trans h.ext
              have e77 := h.at_ 15 rfl (hall 15 (by decide))
              have hag := h.agree.out
              simp only [List.foldl_cons, List.foldl_nil, Act.put, List.setIfInBounds_toArray, List.set_cons_zero, List.set_cons_succ, e77] at hag
              generalize a.eval (.tmp 62) = y62 at hag
              generalize a.eval (.tmp 63) = y63 at hag
              generalize a.eval (.tmp 64) = y64 at hag
              generalize a.eval (.tmp 65) = y65 at hag
              generalize a.eval (.tmp 66) = y66 at hag
              generalize a.eval (.tmp 67) = y67 at hag
              generalize a.eval (.tmp 68) = y68 at hag
              generalize a.eval (.tmp 69) = y69 at hag
              generalize a.eval (.tmp 70) = y70 at hag
              generalize a.eval (.tmp 71) = y71 at hag
              generalize a.eval (.tmp 72) = y72 at hag
              generalize a.eval (.tmp 73) = y73 at hag
              generalize a.eval (.tmp 74) = y74 at hag
              generalize a.eval (.tmp 75) = y75 at hag
              generalize a.eval (.tmp 76) = y76 at hag
              clear h hall hfar e77
              subst hag
              have p0 := (kid_cells (HB3.out.ext hyu)).1
              have hx3u := hx3.trans hyu
              go_wp2_with (at_builtin; refine wpList_plain rfl fun _ hK => wp_append _ (.tmp 78) (.tmp 81) 66 rfl w0.heap.size 9 (.string ByteArray.empty) 1 16 Try.underlying66 strI rfl (by decide) (.slice KA k kcc) k _ rfl (own_ext Hv.out (hx3u.alloc _)) (some ⟨u.heap.size, 0, none⟩) 1 1 [.string q.1] rfl rfl (Cells.lit rfl [.string q.1] _ _) (by intro u hu; simp only [List.mem_singleton] at hu; subst hu; rfl) (by simp only [maxLen]; omega) (by omega) ((hx.trans hx3u).alloc _).size ?_; intro v5 w5 ho5 hg5 _; have hx5 : Ext w0 w5 := ((hx.trans hx3u).alloc _).grown (own_ext Hv.out (hx3u.alloc _)) hg5; obtain ⟨A5, c5, rfl, _, _, _⟩ := own_form ho5 (by decide); refine hK _ _ ?_)
              go_roundw
              case rel => exact ⟨k + 1, A5, c5, by omega, by go_num, rfl, Lib.hid (by rw [sv_snoc, HTK.out] at ho5; exact ho5), range_snoc hA.out HT.out, hx5⟩
              case measure => simp [intOf]; omega
      · obtain rfl : k = K := by omega
        have hks : (t.kids.take k).map (·.1) = t.kids.map (·.1) := by rw [← Hh.out.hk, List.take_length]
        rw [hks] at Hv
        have hR : RES = (List.range k).all (keyOk (t.kids.map (·.1))) := by
          rw [HRES2.out, Hh.out.hk]
          exact all_keys (fun i hi => kdOk_key (by rw [Hh.out.hk]; exact hi)) hA.out
        have HSZ := Lib.hid (show ∀ s ∈ t.kids.map (·.1), s.size ≤ 140737488351232 from fun s hs => by obtain ⟨p, hp, rfl⟩ := List.mem_map.1 hs; exact (Hh.out.sk p hp).1)
        have Hks := Lib.hid (show (t.kids.map (·.1)).length = k by rw [List.length_map, Hh.out.hk])
        generalize t.kids.map (·.1) = ks at Hv hR HSZ Hks
        have HR := Lib.hid hR
        have HV := Hv
        clear hR hks hA hlt Hv hx
        obtain ⟨gk, hgk⟩ := own_blk HV.out
        have HGK := Lib.hid hgk
        clear hgk
        go_upto_region 19 with (fail)
        obtain ⟨wk, hwk⟩ : ∃ wk, wk = wr := ⟨_, rfl⟩
        rw [← hwk] at HV hxw ⊢
        clear hwk
        go_loopw [86] (fun i wq => ∃ mm : Nat, mm ≤ k ∧ i = .int .i64 mm ∧ Aside ((List.range mm).all (keyOk ks) = true) ∧ wq = wk) (fun i _ => k - (intOf i).toNat)
        case atStart => exact ⟨0, Nat.zero_le _, rfl, rfl, rfl⟩
        case round =>
          obtain ⟨m, hm, rfl, hAk, rfl⟩ := hrel
          by_cases hlm : m < k
          · obtain ⟨rfl, _⟩ := HGK.out (by omega)
            have hml : m < ks.length := by rw [Hks.out]; exact hlm
            have hcm := own_row_cell HV.out (i := m) (v := .string ks[m]) (by simp [sv, hml])
            have hok : keyOk ks m = (decide (ks[m].size ≤ 16) && (m == 0 || bslt (keyAt ks (m - 1)) ks[m])) := by unfold keyOk; rw [keyAt_get hml]
            have hno : keyOk ks m = false → RES = false := fun hf => by rw [HR.out, range_bad hlm hf]
            obtain ⟨s, hs⟩ : ∃ s, s = ks[m] := ⟨_, rfl⟩
            rw [← hs] at hcm hok
            have HOK := Lib.hid hok
            have HNO := Lib.hid hno
            have hsb : s.size ≤ 140737488351232 := by rw [hs]; exact HSZ.out _ (List.getElem_mem hml)
            clear hs hok hno
            have hp0 : (0 : Int) ≤ (m : Int) := by omega
            have hp1 : (m : Int) < (k : Int) := by omega
            by_cases hbig : (16 : Int) < (s.size : Int)
            · have HF := Lib.hid (HNO.out (HOK.out.trans (by rw [decide_eq_false (by omega), Bool.false_and])))
              go_wp2
              go_ret
              exact ⟨ret_bool HF.out.symm, hxw⟩
            · rcases Nat.eq_zero_or_pos m with rfl | hpos
              · have HT := Lib.hid (HOK.out.trans (by rw [decide_eq_true (by omega)]; try rfl))
                go_wp2
                go_roundw
                case rel => exact ⟨1, by omega, by go_num, range_snoc hAk.out HT.out, by first | rfl | trivial⟩
                case measure => simp [intOf]; omega
              · obtain ⟨j, rfl⟩ : ∃ j, m = j + 1 := ⟨m - 1, by omega⟩
                have hjl : j < ks.length := by omega
                have hcj := own_row_cell HV.out (i := j) (v := .string ks[j]) (by simp [sv, hjl])
                have eq : keyAt ks (j + 1 - 1) = ks[j] := keyAt_get hjl
                obtain ⟨q, hq⟩ : ∃ q, q = ks[j] := ⟨_, rfl⟩
                rw [← hq] at hcj eq
                rw [eq, decide_eq_true (by omega), Bool.true_and] at HOK
                clear hq eq
                have e1 : ((j + 1 : Nat) : Int) - 1 = (j : Int) := by omega
                have hp2 : (0 : Int) < ((j + 1 : Nat) : Int) := by omega
                have hp3 : (0 : Int) ≤ (j : Int) := by omega
                have hp4 : (j : Int) < (k : Int) := by omega
                have hlt := less_tot q.toList s.toList
                cases hb : Op.bytesLess q.toList s.toList with
                | true =>
                  rw [hb, Bool.not_true] at hlt
                  obtain ⟨hl1, hl2⟩ := Bool.or_eq_false_iff.1 hlt.symm
                  clear hlt
                  have hl3 : ¬ s.toList = q.toList := beq_eq_false_iff_ne.1 hl2
                  have hl4 : (q.toList == s.toList) = false := by rw [beq_eq_false_iff_ne]; exact fun e => hl3 e.symm
                  have HT := Lib.hid (HOK.out.trans (by unfold bslt; rw [hb]; try rfl))
                  go_wp2
                  go_roundw
                  case rel => exact ⟨j + 1 + 1, by omega, by go_num, range_snoc hAk.out HT.out, by first | rfl | trivial⟩
                  case measure => simp [intOf]; omega
                | false =>
                  rw [hb, Bool.not_false, eq_comm] at hlt
                  have HF := Lib.hid (HNO.out (HOK.out.trans (by unfold bslt; rw [hb]; try rfl)))
                  cases hl1 : Op.bytesLess s.toList q.toList with
                  | true =>
                    clear hlt
                    go_wp2
                    go_ret
                    exact ⟨ret_bool HF.out.symm, hxw⟩
                  | false =>
                    rw [hl1, Bool.false_or, beq_iff_eq] at hlt
                    have hl2 : (s.toList == q.toList) = true := beq_iff_eq.2 hlt
                    clear hlt
                    go_wp2
                    go_ret
                    exact ⟨ret_bool HF.out.symm, hxw⟩
          · obtain rfl : m = k := by omega
            have HT := Lib.hid (HR.out.trans hAk.out)
            go_wp2
            go_ret
            exact ⟨ret_bool HT.out.symm, hxw⟩
/-- The reference's GoodTree. -/
theorem rgoodTree_calls (t : Tr) (pa ka : Option Addr) (P K pc kc : Nat) (w : World) (h : TrAt w t pa ka P K pc kc) :
    Calls Try.prog 17 #[tra pa P pc ka K kc] w fun e w' => e = .returned (.bool t.good) ∧ Ext w w' := by
  have hP := h.hp
  have hK := h.hk
  by_cases hs : (0 < K ∧ 0 < P) ∨ (P = 0 ∧ K = 1) ∨ (P = 0 ∧ 3 < K) ∨ (K = 0 ∧ 4 < P)
  · have hg : t.good = false := by
      unfold Tr.good Tr.shape
      rw [hP, hK]
      rcases hs with ⟨h1, h2⟩ | ⟨rfl, rfl⟩ | ⟨rfl, h2⟩ | ⟨rfl, h2⟩
      · rw [decide_eq_true h1, decide_eq_true h2]; simp
      · rfl
      · rw [decide_eq_false (show ¬ K ≤ 3 by omega)]; simp
      · rw [decide_eq_false (show ¬ P ≤ 4 by omega)]; rfl
    rw [hg]
    exact rgoodTree_bad t pa ka P K pc kc w h hs
  · have hg : t.good = ((List.range t.pairs.length).all (prOk t.pairs) && (List.range t.kids.length).all (kdOk t.kids)) := by
      have : t.shape = true := by
        unfold Tr.shape
        rw [hP, hK]
        have a1 : P ≤ 4 := by omega
        have a2 : K ≤ 3 := by omega
        have a3 : (decide (0 < P) && decide (0 < K)) = false := by
          by_cases h0 : 0 < P
          · rw [decide_eq_false (show ¬ 0 < K by omega), Bool.and_false]
          · rw [decide_eq_false h0, Bool.false_and]
        have a4 : (K == 1) = false := by rw [beq_eq_false_iff_ne]; omega
        rw [decide_eq_true a1, decide_eq_true a2, a3, a4]; rfl
      unfold Tr.good
      rw [this, Bool.true_and]
    rw [hg]
    rcases Nat.eq_zero_or_pos K with h0 | h0
    · subst h0
      exact rgoodTree_pairs t pa ka P pc kc w h (by omega)
    · have : P = 0 := by omega
      subst this
      exact rgoodTree_kids t pa ka K pc kc w h (by omega) (by omega)
end Go.Proofs.Ythepbcomeimcnaa
