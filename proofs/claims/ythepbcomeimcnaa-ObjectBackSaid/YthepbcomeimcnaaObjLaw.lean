/- The walk of the laws' own functions of layer 15: alive, greatTree, greatCommit (that they answer). -/
import Derived.Test.YthepbcomeimcnaaObjPutC
namespace Go.Proofs.Ythepbcomeimcnaa
open Go.RowKit
set_option linter.unusedVariables false

/-- A truth value; if it is false, p. -/
def FewRet (p : Prop) (e : Ending) : Prop := ∃ b, e = .returned (.bool b) ∧ (b = false → p)

def trNil : Tr := ⟨[], []⟩
theorem trNil_good : trNil.good = true := by decide
theorem trNil_bytes : trNil.bytes = [1, 0] := by decide
theorem trNil_at (w : World) : TrAt w trNil none none 0 0 0 0 :=
  ⟨rfl, rfl, Nat.le_refl _, Nat.le_refl _, Row.nil _ _ _, Row.nil _ _ _, by decide, by decide, by intro s h; simp [trNil] at h, by intro s h; simp [trNil] at h⟩
theorem two_str : (bstr [1, 0]).toList = [1, 0] := by kernel_rfl
theorem obj_alive (w : World) : Calls Try.prog 8 #[] w fun e w' => e = .returned (.bool true) ∧ Ext w w' := by
  have o1 := two_str
  go_enter Try.func8, Try.ntmps8
  go_wp2_with (first
    | (go_at_call 11; ((with_reducible refine (putTree_calls trNil none none 0 0 0 0 _ (trNil_at _)).mono ?_); rw [trNil_good, trNil_bytes]; rintro e w1 ⟨⟨v, rfl, own⟩, hx1⟩; obtain ⟨A5, c5, hv5, hl5, hm5, hc5⟩ := Own.form_at own (show [1, 0].length = 2 from rfl); subst hv5; have hcv := conv_str (P := Try.prog) Try.underlying35 Try.underlying5 Try.underlying9 (c := c5) (bs := [1, 0]) (n := 2) rfl hc5)))
  go_ret
  exact ⟨rfl, hx1⟩

/-- A truth value is returned. -/
def BoolRet (e : Ending) : Prop := ∃ b, e = .returned (.bool b)
set_option maxHeartbeats 4000000 in
theorem greatCommit_few (c : Cm) (qa : Option Addr) (Q qc : Nat) (w : World) (h : CmAt w c qa Q qc) :
    Calls Try.prog 10 #[cma c qa Q qc] w fun e w' => FewRet (Q ≤ 50 ∧ c.note.size ≤ 1024) e ∧ Ext w w' := by
  have HR := Lib.hid h.hr
  have hsn := h.sn
  have hbq := h.bq
  clear h
  go_enter Try.func10, Try.ntmps10
  have hbox : Blk (w.alloc (.cells (cmC c qa Q qc).toArray 31)) w.heap.size 31 (cmC c qa Q qc).toArray := Blk.new w _ _
  have hx0 : Ext w (w.alloc (.cells (cmC c qa Q qc).toArray 31)) := (Ext.refl _).alloc _
  obtain ⟨_, c1, c2, c3⟩ := cm_cells hbox HR.out
  clear hbox
  by_cases h1 : (50 : Int) < (Q : Int)
  · go_wp2
    go_ret
    exact ⟨⟨_, rfl, fun h => by cases h⟩, hx0⟩
  · by_cases h2 : (1024 : Int) < (c.note.size : Int)
    · go_wp2
      go_ret
      exact ⟨⟨_, rfl, fun h => by cases h⟩, hx0⟩
    · go_wp2
      go_ret
      exact ⟨⟨_, rfl, fun _ => by omega⟩, hx0⟩
theorem greatCommit_calls (c : Cm) (qa : Option Addr) (Q qc : Nat) (w : World) (h : CmAt w c qa Q qc) :
    Calls Try.prog 10 #[cma c qa Q qc] w fun e w' => BoolRet e ∧ Ext w w' :=
  (greatCommit_few c qa Q qc w h).mono fun e w' ⟨⟨b, h1, _⟩, h2⟩ => ⟨⟨b, h1⟩, h2⟩

set_option maxHeartbeats 8000000 in
theorem greatTree_few (t : Tr) (pa ka : Option Addr) (P K pc kc : Nat) (w : World) (h : TrAt w t pa ka P K pc kc) :
    Calls Try.prog 9 #[tra pa P pc ka K kc] w fun e w' => FewRet (P ≤ 50 ∧ K ≤ 50) e ∧ Ext w w' := by
  have Hh := Lib.hid h
  have hbp := h.bp
  have hbk := h.bk
  clear h
  go_enter Try.func9, Try.ntmps9
  have hbox : Blk (w.alloc (.cells #[.slice pa P pc, .slice ka K kc] 25)) w.heap.size 25 #[.slice pa P pc, .slice ka K kc] := Blk.new w _ _
  have hx0 : Ext w (w.alloc (.cells #[.slice pa P pc, .slice ka K kc] 25)) := (Ext.refl _).alloc _
  have Hbox := Lib.hid hbox
  obtain ⟨c0, c1⟩ := tree_cells hbox
  clear hbox
  have Hc0 := Lib.hid c0
  have Hc1 := Lib.hid c1
  by_cases h1 : (50 : Int) < (P : Int)
  · go_wp2
    go_ret
    exact ⟨⟨_, rfl, fun h => by first | (cases h; done) | omega⟩, hx0⟩
  by_cases h2 : (50 : Int) < (K : Int)
  · go_wp2
    go_ret
    exact ⟨⟨_, rfl, fun h => by first | (cases h; done) | omega⟩, hx0⟩
  go_wp2
  clear c0 c1
  go_loopw [21, 3] (fun i v wr => ∃ (k m : Nat), k ≤ P ∧ i = .int .i64 k ∧ v = .int .i64 m ∧ m ≤ 4096 ∧ Ext (w.alloc (.cells #[.slice pa P pc, .slice ka K kc] 25)) wr) (fun i _ _ => P - (intOf i).toNat)
  case atStart => exact ⟨0, 0, Nat.zero_le _, rfl, rfl, by omega, Ext.refl _⟩
  case round =>
    obtain ⟨k, m, hk, rfl, rfl, hm, hx⟩ := hrel
    have hxw : Ext w wr := hx0.trans hx
    by_cases hlt : k < P
    · have hkl : k < t.pairs.length := by rw [Hh.out.hp]; exact hlt
      obtain ⟨x, rfl, r0, r1⟩ := pr_row (Hh.out.cp.ext hxw) hkl
      have hsm := Hh.out.sp _ (List.getElem_mem hkl)
      obtain ⟨p, hp⟩ : ∃ p, p = t.pairs[k] := ⟨_, rfl⟩
      rw [← hp] at r0 r1 hsm
      obtain ⟨hs1, hs2⟩ := hsm
      clear hp
      have hlc : ∀ (j : Nat) (v : Value), (prC p)[j]? = some v → wr.cell? ((x.add (k * 2)).add j) = some v := by
        intro j v hj
        match j, hj with
        | 0, hj => cases hj; exact r0
        | 1, hj => cases hj; exact r1
        | n + 2, hj => cases hj
      go_upto_region 7 with (first
        | (refine wpList_load_row_ rfl 43 (.tmp 23) rfl (x.add (k * 2)) rfl (prC p) _ hlc Try.underlying43 rfl pr_info ?_)
        | (refine wpList_store_blk rfl 43 (.tmp 5) (.tmp 24) rfl rfl wr.heap.size (prC p).toArray rfl rfl _ _ (Blk.new wr _ _) rfl (by kernel_rfl) (prC_one p) ?_; intro w3 hb3 hg3; have hx3 : Ext wr w3 := ((Ext.refl _).alloc _).grown_ hg3 (by simp)))
      clear hlc r0 r1 hg3
      obtain ⟨p0, p1⟩ := pair_cells hb3
      clear hb3
      by_cases hbig : (4096 : Int) < (m : Int) + ((p.1.size : Int) + (p.2.size : Int))
      · go_wp2
        go_ret
        exact ⟨⟨_, rfl, fun h => by first | (cases h; done) | omega⟩, hxw.trans hx3⟩
      · go_wp2
        go_roundw
        case rel => exact ⟨k + 1, m + (p.1.size + p.2.size), by omega, by go_num, by go_num, by omega, hx.trans hx3⟩
        case measure => simp [intOf]; omega
    · obtain rfl : k = P := by omega
      obtain ⟨c0, c1⟩ := tree_cells (Hbox.out.ext hx)
      go_wp2
      clear c0 c1
      go_loopw [40, 3] (fun i v wr' => ∃ (k m : Nat), k ≤ K ∧ i = .int .i64 k ∧ v = .int .i64 m ∧ m ≤ 4096 ∧ Ext w wr') (fun i _ _ => K - (intOf i).toNat)
      case atStart => exact ⟨0, m, Nat.zero_le _, rfl, rfl, hm, hxw⟩
      case round =>
        clear hx hxw
        obtain ⟨k, m, hk, rfl, rfl, hm, hxw⟩ := hrel
        by_cases hlt : k < K
        · have hkl : k < t.kids.length := by rw [Hh.out.hk]; exact hlt
          obtain ⟨x, rfl, _, _, hlc⟩ := kd_row (Hh.out.ck.ext hxw) hkl
          obtain ⟨hs1, hql⟩ := Hh.out.sk _ (List.getElem_mem hkl)
          obtain ⟨q, hq⟩ : ∃ q, q = t.kids[k] := ⟨_, rfl⟩
          rw [← hq] at hlc hql hs1
          have HQL := Lib.hid hql
          clear hq hql
          go_upto_region 14 with (first
            | (refine wpList_load_row_ rfl 59 (.tmp 42) rfl (x.add (k * 34)) rfl (kdC q) _ hlc Try.underlying59 rfl (by rw [kd_info, kdC_len HQL.out]) ?_)
            | (refine wpList_store_blk rfl 59 (.tmp 7) (.tmp 43) rfl rfl wr.heap.size (kdC q).toArray rfl rfl _ _ (Blk.new wr _ _) (by rw [List.size_toArray, kdC_len HQL.out]; rfl) (by kernel_rfl) (kdC_one q) ?_; intro w3 hb3 hg3; have hx3 : Ext wr w3 := ((Ext.refl _).alloc _).grown_ hg3 (by simp)))
          clear hlc hg3
          obtain ⟨p0, _⟩ := kid_cells hb3
          clear hb3
          by_cases hbig : (4096 : Int) < (m : Int) + (q.1.size : Int)
          · go_wp2
            go_ret
            exact ⟨⟨_, rfl, fun h => by first | (cases h; done) | omega⟩, hxw.trans hx3⟩
          · go_wp2
            go_roundw
            case rel => exact ⟨k + 1, m + q.1.size, by omega, by go_num, by go_num, by omega, hxw.trans hx3⟩
            case measure => simp [intOf]; omega
        · obtain rfl : k = K := by omega
          go_wp2
          go_ret
          exact ⟨⟨_, rfl, fun h => by first | (cases h; done) | omega⟩, hxw⟩
theorem greatTree_calls (t : Tr) (pa ka : Option Addr) (P K pc kc : Nat) (w : World) (h : TrAt w t pa ka P K pc kc) :
    Calls Try.prog 9 #[tra pa P pc ka K kc] w fun e w' => BoolRet e ∧ Ext w w' :=
  (greatTree_few t pa ka P K pc kc w h).mono fun e w' ⟨⟨b, h1, _⟩, h2⟩ => ⟨⟨b, h1⟩, h2⟩
end Go.Proofs.Ythepbcomeimcnaa
