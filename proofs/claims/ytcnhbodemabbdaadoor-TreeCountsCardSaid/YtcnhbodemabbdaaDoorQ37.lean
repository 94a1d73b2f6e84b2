/- tree.made: a tree's object. Printed by wip/mktreebuild.py. -/
import Derived.Test.YtcnhbodemabbdaaDoorQ33
import Derived.Test.YtcnhbodemabbdaaDoorQ26
import Derived.Test.YtcnhbodemabbdaaDoorQ36
namespace Go.Proofs.YtcnhbodemabbdaaDoor
open Go.RowKit
set_option linter.unusedVariables false

set_option maxRecDepth 100000 in
set_option maxHeartbeats 16000000 in
theorem made_calls (k : UInt8) (t : Tr) (pa ka : Option Addr) (P K pc kc : Nat) (w : World) (h : TrAt w t pa ka P K pc kc) (hg : t.good = true) (hl : t.bytes.length ≤ 200) (hT : Tab w) :
    Calls Tryd.prog 35 #[.int .u8 k.toNat, tra pa P pc ka K kc] w fun e w' => e = .returned (.tuple #[.agg (obC (objT k t)).toArray, .int .i64 0]) ∧ Ext w w' := by
  obtain ⟨o, ho⟩ : ∃ o, o = objT k t := ⟨_, rfl⟩
  obtain ⟨bs, hbs⟩ : ∃ b, b = t.bytes := ⟨_, rfl⟩
  have HO1 : Hid (o.1 = idPad (idName k bs)) := Lib.hid (by rw [ho, hbs]; rfl)
  have HO2 : Hid (o.2 = bstr bs) := Lib.hid (by rw [ho, hbs]; rfl)
  have HO3 : Hid (o.1.length = 33) := Lib.hid (by rw [HO1.out]; exact idPad_len (idName_len _ _))
  have HPT := Lib.hid (fun (u : World) (hu : Ext w u) => putTree_calls t pa ka P K pc kc u (h.ext hu))
  rw [hg, ← hbs] at HPT
  rw [← hbs] at hl
  rw [← ho]
  have HL : Hid (bs.length ≤ 1048576) := Lib.hid (by omega)
  have HTB := Lib.hid hT
  clear h hg hT ho hbs
  go_enter Tryd.func35, Tryd.ntmps35
  obtain ⟨w1, hw1⟩ : ∃ w1, w1 = (w.alloc (.cells #[.slice pa P pc, .slice ka K kc] 73)).alloc (.cells (obC (idNone, ByteArray.empty)).toArray 35) := ⟨_, rfl⟩
  have hx1 : Ext w w1 := by rw [hw1]; exact ((Ext.refl _).alloc _).alloc _
  have hbt : Blk w1 w.heap.size 73 #[.slice pa P pc, .slice ka K kc] := by rw [hw1]; exact (Blk.new w _ _).ext ((Ext.refl _).alloc _)
  have hbo : Blk w1 (w.heap.size + 1) 35 (obC (idNone, ByteArray.empty)).toArray := by rw [hw1]; exact Blk.new_at (by simp) _ _
  go_upto_region 1 with (fail)
  rw [show (#[.int .u8 0, .int .u8 0, .int .u8 0, .int .u8 0, .int .u8 0, .int .u8 0, .int .u8 0, .int .u8 0, .int .u8 0, .int .u8 0, .int .u8 0, .int .u8 0, .int .u8 0, .int .u8 0, .int .u8 0, .int .u8 0, .int .u8 0, .int .u8 0, .int .u8 0, .int .u8 0, .int .u8 0, .int .u8 0, .int .u8 0, .int .u8 0, .int .u8 0, .int .u8 0, .int .u8 0, .int .u8 0, .int .u8 0, .int .u8 0, .int .u8 0, .int .u8 0, .int .u8 0, .string { data := #[] }] : Array Value) = (obC (idNone, ByteArray.empty)).toArray from rfl, ← hw1]
  obtain ⟨g3, hg3⟩ : ∃ g, g = w.heap.size := ⟨_, rfl⟩
  obtain ⟨g4, hg4e⟩ : ∃ g, g = w.heap.size + 1 := ⟨_, rfl⟩
  have hg4 : w.heap.size ≤ g4 := by omega
  rw [← hg4e] at hbo ⊢
  rw [← hg3] at hbt ⊢
  have HBO := Lib.hid hbo
  have HG4 : Hid (g4 < w1.heap.size) := Lib.hid hbo.lt
  obtain ⟨c0, c1⟩ := tree_cells hbt
  clear hw1 hbt hbo hg3 hg4e
  go_upto_region 2 with (go_at_call 52; (with_reducible refine Calls.mono (HPT.out w1 hx1) ?_); rintro e w2 ⟨⟨v2, rfl, ho2⟩, hx2'⟩; obtain ⟨A, c, rfl, hnc, _, hc2⟩ := Own.form ho2)
  have hx2 := hx1.trans hx2'
  have HB4 := Lib.hid (HBO.out.ext hx2')
  have HAB : Hid (∀ x, A = some x → some x.block ≠ some g4) := Lib.hid (fun x hx => by
    have h1 := Own.ne ho2 x hx
    have h2 := HG4.out
    intro e
    have h3 := Option.some.inj e
    omega)
  simp only [if_true] at hc2 hnc
  have HC2 := Lib.hid hc2
  obtain ⟨n, hn⟩ : ∃ n, bs.length = n := ⟨_, rfl⟩
  rw [hn] at hnc HL
  have HN := Lib.hid hn
  simp only [if_true, hn]
  clear ho2 hc2 hx2' HBO HG4 c0 c1 hn HPT
  refine wp_region_opsC (JInv [13, 14, 15, 16, 17, 18, 19, 5] _ [(0, 13, .int .u8 k.toNat), (1, 14, .slice A n c), (2, 15, .agg (bv o.1).toArray), (3, 16, .slice A n c), (4, 17, .string o.2), (5, 18, .agg (obC o).toArray), (6, 19, .int .i64 0), (8, 5, .int .i64 0)] [] (fun f L u => Ext w u ∧ Cells u A (bv bs) ∧ (f 7 = false → Blk u g4 35 (obC (idNone, ByteArray.empty)).toArray) ∧ (f 7 = true → Blk u g4 35 (obC o).toArray))) (by kernel_rfl) (by kernel_rfl) (JInv.start (⟨hx2.drew, HC2.out.ext (Ext.refl _).drew, fun _ => HB4.out, fun h => (by cases h)⟩)) ?_ ?_
  · refine ⟨?o0, ?o1, ?o2, ?o3, ?o4, ?o5, ?o6, ?o7, ?o8, trivial⟩
    case o0 =>
      intro f a u h hfi hp hq hcl
      have q0 : a.tmps[0]?.getD undef = .int .u8 k.toNat := h.agree.att (by decide)
      exact h.yield rfl rfl 13 rfl (by change 13 < 20; decide) rfl _ rfl (fun L hL => hL) (by go_simp)
    case o1 =>
      intro f a u h hfi hp hq hcl
      have q6 : a.tmps[6]?.getD undef = .slice A n c := h.agree.att (by decide)
      exact h.yield rfl rfl 14 rfl (by change 14 < 20; decide) rfl _ rfl (fun L hL => hL) (by go_simp)
    case o2 =>
      intro f a u h hfi hp hq hcl
      exact h.call rfl rfl 15 rfl (by change 15 < 20; decide) rfl _ rfl (fun L w' hL hx => ⟨hL.1.trans hx, hL.2.1.ext hx, fun hf => (hL.2.2.1 hf).ext hx, fun hf => (hL.2.2.2 hf).ext hx⟩) 40 #[.tmp 13, .tmp 14] #[5, 87] _ rfl (by kernel_rfl) (by rw [arr2, h.at_ 0 rfl (pre_of hp 0 rfl), h.at_ 1 rfl (pre_of hp 1 rfl)] <;> rfl) (by rw [HO1.out]; exact idof_calls k A n c bs u h.mem.2.1 HN.out hnc HL.out (HTB.out.ext h.mem.1))
    case o3 =>
      intro f a u h hfi hp hq hcl
      have q6 : a.tmps[6]?.getD undef = .slice A n c := h.agree.att (by decide)
      exact h.yield rfl rfl 16 rfl (by change 16 < 20; decide) rfl _ rfl (fun L hL => hL) (by go_simp)
    case o4 =>
      intro f a u h hfi hp hq hcl
      exact h.yield rfl rfl 17 rfl (by change 17 < 20; decide) rfl _ rfl (fun L hL => hL) (run_of_sem rfl (by rw [h.at_ 3 rfl (pre_of hp 3 rfl)]; exact (by rw [HO2.out]; exact conv_str (P := Tryd.prog) Tryd.underlying87 Tryd.underlying5 Tryd.underlying9 HN.out h.mem.2.1)))
    case o5 =>
      intro f a u h hfi hp hq hcl
      exact h.stepV rfl rfl 18 rfl (by change 18 < 20; decide) rfl _ rfl (wp_val (s := Instr.build 35 #[(0, a.eval (.tmp 15)), (1, a.eval (.tmp 17))]) (exec_build rfl (by rw [arr2])) (by rw [h.at_ 2 rfl (pre_of hp 2 rfl), h.at_ 4 rfl (pre_of hp 4 rfl)]; exact build_obj _ _ _ HO3.out) ⟨rfl, h.mem⟩)
    case o6 =>
      intro f a u h hfi hp hq hcl
      have q7 : a.tmps[7]?.getD undef = .int .i64 0 := h.agree.att (by decide)
      exact h.yield rfl rfl 19 rfl (by change 19 < 20; decide) rfl _ rfl (fun L hL => hL) (by go_simp)
    case o7 =>
      intro f a u h hfi hp hq hcl
      refine h.turn rfl rfl (none) rfl rfl ?_
      have e18 := (h.at_ 5 rfl (pre_of hp 5 rfl))
      have hb := h.mem.2.2.1 hfi
      refine wp_store_blk 35 (.tmp 4) (.tmp 18) rfl rfl g4 (obC o).toArray ((show a.eval (.tmp 4) = .pointer (some ⟨g4, 0, none⟩) from h.agree.eval (by decide))) e18 35 (obC (idNone, ByteArray.empty)).toArray hb (by rw [List.size_toArray, List.size_toArray, obC_len HO3.out]; rfl) (by kernel_rfl) (fun v hv => obC_one o v (by simpa using hv)) ?_
      intro w' hb' hg'
      refine ⟨.tuple #[], rfl, ?_⟩
      exact ⟨h.mem.1.grown_ hg' (fun j e => by cases e; exact hg4), h.mem.2.1.grown hg' (fun x hx => HAB.out x hx), fun hf => (by cases hf), fun _ => hb'⟩
    case o8 =>
      intro f a u h hfi hp hq hcl
      have q19 := h.att 6 rfl (pre_of hp 6 rfl)
      exact h.yield rfl rfl 5 rfl (by change 5 < 20; decide) rfl _ rfl (fun L hL => hL) (by go_simp)
  · intro f a u h hall hfar
    have hag := h.agree.out
    have hm := h.mem
    simp only [List.foldl_cons, List.foldl_nil, Act.put, List.setIfInBounds_toArray, List.set_cons_zero, List.set_cons_succ] at hag
    simp only [h.at_ 7 rfl (hall 8 (by decide))] at hag
    generalize a.eval (.tmp 13) = y13 at hag
    generalize a.eval (.tmp 14) = y14 at hag
    generalize a.eval (.tmp 15) = y15 at hag
    generalize a.eval (.tmp 16) = y16 at hag
    generalize a.eval (.tmp 17) = y17 at hag
    generalize a.eval (.tmp 18) = y18 at hag
    generalize a.eval (.tmp 19) = y19 at hag
    obtain ⟨hxu, _, _, hbu⟩ := hm
    have hb4 := hbu (hall 7 (by decide))
    clear hbu h hall hfar
    subst hag
    go_wp2
    refine bodyPost_ret (results_row_tmp (P := Tryd.prog) (fn := Tryd.f35) rfl _ _ g4 35 (obC o).toArray _ rfl hb4 Tryd.underlying35 rfl (by rw [List.size_toArray, obC_len HO3.out]; kernel_rfl)) rfl ?_
    exact ⟨rfl, hxu⟩
end Go.Proofs.YtcnhbodemabbdaaDoor
