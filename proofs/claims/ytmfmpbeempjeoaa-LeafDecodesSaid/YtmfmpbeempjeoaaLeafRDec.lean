/- The walk of the reference's Decode. Printed by wip/mkleafrdec.py. -/
import Derived.Test.YtmfmpbeempjeoaaLeafRDecPure
import Derived.Test.YtmfmpbeempjeoaaLeafRGood
import Derived.Test.YtmfmpbeempjeoaaRef01b
import Derived.Test.YtmfmpbeempjeoaaRegText
namespace Go.Proofs.Ytmfmpbeempjeoaa
open Go.RowKit
set_option linter.unusedVariables false

theorem rdec_stays {B gR g2 : Nat} {r : PR} (h1 : gR < B) (h2 : g2 < B) : Stays B (fun u => RRdr u gR r ∧ Blk u g2 25 #[.bool false, .slice none 0 0, .slice none 0 0, .slice none 0 0]) := by
  intro w w' row h hg hr
  exact ⟨⟨h.1.1.grown hg (fun e => by have := hr gR e.symm; omega), h.1.2⟩, h.2.grown hg (fun e => by have := hr g2 e.symm; omega)⟩
theorem rdec_after {gR gN g2 : Nat} {r : PR} {u : World} (h : RRdr u gR r ∧ Blk u g2 25 #[.bool false, .slice none 0 0, .slice none 0 0, .slice none 0 0]) (h1 : gR ≠ gN) (h2 : g2 ≠ gN) (i : Nat) (v : Value) : RRdr (u.setCell ⟨gN, i, none⟩ v) gR r ∧ Blk (u.setCell ⟨gN, i, none⟩ v) g2 25 #[.bool false, .slice none 0 0, .slice none 0 0, .slice none 0 0] :=
  ⟨⟨h.1.1.far (p := ⟨gN, i, none⟩) h1 v, h.1.2⟩, h.2.far (p := ⟨gN, i, none⟩) h2 v⟩
theorem rdec_start {w w2 w3 : World} (l : Bool) {C : Array Value} {r0 : PR} (hR2 : RRdr w2 (w.heap.size + 1) r0) (ht2 : Turns ((w.alloc (.cells #[.bool false, .slice none 0 0, .slice none 0 0, .slice none 0 0] 25)).alloc (.cells C 57)) w2 (w.heap.size + 1)) (hx23 : Ext w2 w3) (hN3 : Blk w3 w2.heap.size 25 #[.bool l, .slice none 0 0, .slice none 0 0, .slice none 0 0]) :
    OW w w3.heap.size (fun u => RRdr u (w.heap.size + 1) r0 ∧ Blk u w.heap.size 25 #[.bool false, .slice none 0 0, .slice none 0 0, .slice none 0 0]) w2.heap.size 25 #[.bool l, .slice none 0 0, .slice none 0 0, .slice none 0 0] [⟨9, 1, 0, [], .slice none 0 0⟩, ⟨9, 1, 0, [], .slice none 0 0⟩, ⟨3, 1, 0, [], .slice none 0 0⟩] w3 ∧ w.heap.size + 1 < w2.heap.size ∧ w2.heap.size < w3.heap.size := by
  have hs2 := ht2.size
  have hn3 := hN3.lt
  simp at hs2
  have hb2 : Blk w3 w.heap.size 25 #[.bool false, .slice none 0 0, .slice none 0 0, .slice none 0 0] := ((((Blk.new w _ _).alloc _).grown ht2 (by intro e; have := Option.some.inj e; omega))).ext hx23
  refine ⟨⟨(Turns.ext ht2 (((Ext.refl w).alloc _).alloc _) (by omega)).trans hx23, ⟨hR2.ext hx23, hb2⟩, hN3, ?_, ?_, Nat.le_refl _⟩, by omega, hn3⟩
  · intro i r hi
    match i, hi with
    | 0, hi => cases hi; exact World.ownsRow_nil _ _ _ _
    | 1, hi => cases hi; exact World.ownsRow_nil _ _ _ _
    | 2, hi => cases hi; exact World.ownsRow_nil _ _ _ _
    | n + 3, hi => cases hi
  · intro i j r s _ hi _ k hk
    match i, hi with
    | 0, hi => cases hi; cases hk
    | 1, hi => cases hi; cases hk
    | 2, hi => cases hi; cases hk
    | n + 3, hi => cases hi
theorem rread_new {w : World} {g : Nat} (hg : w.heap.size = g) (bs : List UInt8) (hl : bs.length ≤ 140737488351232) : RRdr (w.alloc (.cells #[.string (bstr bs), .bool false] 57)) g ⟨bs, false⟩ := ⟨Blk.new_at hg _ _, hl⟩

/-- What the reference's Decode answers: the node, or none. -/
def RDecPost (d : Option Nd) (w : World) (e : Ending) (w' : World) : Prop :=
  ∃ (ka va da : Option Addr) (K V D kc vc dc : Nat), e = .returned (.tuple #[nda (d.getD ⟨false, [], [], []⟩).leaf ka K kc va V vc da D dc, .bool d.isSome]) ∧ NdAt w' (d.getD ⟨false, [], [], []⟩) ka va da K V D kc vc dc ∧ Ext w w'
theorem rdecPost_none {w w' : World} (hx : Ext w w') {d : Option Nd} (hd : d = none) : RDecPost d w (.returned (.tuple #[nda false none 0 0 none 0 0 none 0 0, .bool false])) w' := by
  subst hd
  exact ⟨none, none, none, 0, 0, 0, 0, 0, 0, rfl, ndAt_nil _ _, hx⟩
theorem rdecPost_some {w u w5 : World} {d : Option Nd} {nd : Nd} {l : Bool} {B g2 : Nat} {A1 A2 A3 : Option Addr} {K V D c1 c2 c3 : Nat} (hx : Ext w u) (hg : u.grownBy w5 (some g2)) (h2w : w.heap.size ≤ g2) (h2B : g2 < B) (hl : nd.leaf = l) (hd : d = some nd)
    (hN : NdAt u nd A1 A2 A3 K V D c1 c2 c3) (hf1 : ∀ x, A1 = some x → B ≤ x.block) (hf2 : ∀ x, A2 = some x → B ≤ x.block) (hf3 : ∀ x, A3 = some x → B ≤ x.block) :
    RDecPost d w (.returned (.tuple #[nda l A1 K c1 A2 V c2 A3 D c3, .bool true])) w5 := by
  subst hd
  have hne : ∀ {A : Option Addr}, (∀ x, A = some x → B ≤ x.block) → ∀ x, A = some x → some x.block ≠ some g2 := fun h x hx e => by
    have := h x hx
    cases e
    omega
  exact ⟨A1, A2, A3, K, V, D, c1, c2, c3, by rw [← hl]; rfl, hN.grown hg (hne hf1) (hne hf2) (hne hf3), hx.grown_ hg (by intro k hk; cases hk; exact h2w)⟩
theorem refGood_calls_l (n : Nd) (l : Bool) (hl : n.leaf = l) (ka va da : Option Addr) (K V D kc vc dc : Nat) (w : World) (h : NdAt w n ka va da K V D kc vc dc) :
    Calls Try.prog 11 #[nda l ka K kc va V vc da D dc] w fun e w' => e = .returned (.bool n.good) ∧ Ext w w' := by
  subst hl
  exact refGood_calls n ka va da K V D kc vc dc w h

set_option maxRecDepth 50000 in
set_option maxHeartbeats 4000000 in
theorem rdecode_leaf (h cnt : Nat) (bs : List UInt8) (r0 : PR) (w : World) (hl : bs.length ≤ 140737488351232)
    (Hu : Hid ((PR.mk bs false).uint = (h, r0))) (e1 : (h : Int) % 2 = 1) (hok : r0.Ok) (e2 : (h : Int) / 2 = cnt) (hcn : cnt ≤ 512) (hrl : r0.b.length ≤ 140737488351232) :
    Calls Try.prog 16 #[.string (bstr bs)] w fun e w' => RDecPost (decTail true cnt r0) w e w' := by
  go_enter Try.func16, Try.ntmps16
  have hR1 := rread_new (w := w.alloc (.cells #[.bool false, .slice none 0 0, .slice none 0 0, .slice none 0 0] 25)) (g := w.heap.size + 1) (by simp) bs hl
  go_wp2_with (first
    | (go_at_call 27; ((with_reducible refine (rruint_calls (w.heap.size + 1) _ _ hR1).mono ?_); rintro e w2 ⟨rfl, hR2, ht2⟩; rw [Hu.out]; rw [Hu.out] at hR2))
    | (refine wpList_store_blk rfl 25 (.tmp 6) (.tmp 23) rfl rfl w2.heap.size #[.bool true, .slice none 0 0, .slice none 0 0, .slice none 0 0] rfl rfl _ _ (Blk.new_at rfl _ _) rfl (by kernel_rfl) (by simp [Value.oneCell']) ?_; intro w3 hN3 hg3; have hx23 : Ext w2 w3 := ((Ext.refl _).alloc _).grown_ hg3 (by simp)))
  obtain ⟨hS, hlRN', hlNB'⟩ := rdec_start true hR2 ht2 hx23 hN3
  obtain ⟨B, hB⟩ : ∃ B, B = w3.heap.size := ⟨_, rfl⟩
  obtain ⟨gN, hgN⟩ : ∃ g, g = w2.heap.size := ⟨_, rfl⟩
  obtain ⟨g2, hg2⟩ : ∃ g, g = w.heap.size := ⟨_, rfl⟩
  obtain ⟨gR, hgR⟩ : ∃ g, g = w.heap.size + 1 := ⟨_, rfl⟩
  have hl0B : w.heap.size ≤ B := by omega
  have hl0N : w.heap.size ≤ gN := by omega
  have hlRN : gR < gN := by omega
  have hlNB : gN < B := by omega
  have hlRB : gR < B := by omega
  have hl2B : g2 < B := by omega
  have hl2g : g2 < gR := by omega
  have hl2w : w.heap.size ≤ g2 := by omega
  have hl0R : w.heap.size ≤ gR := by omega
  rw [← hB, ← hgN, ← hgR, ← hg2] at hS
  rw [← hgN, ← hgR, ← hg2]
  clear hB hgN hg2 hgR hlRN' hlNB' hN3 hg3 hx23 hR2 hR1 ht2 e1
  go_loopg [8] cnt (fun gk i wr => ∃ (j : Nat) (D : DSt) (A1 : Option Addr) (c1 : Nat) (A2 : Option Addr) (c2 : Nat), i = .int .i64 j ∧ j + gk = cnt ∧ Hid (D = dpairs true r0 j) ∧ OW w B (fun u => RRdr u gR D.r ∧ Blk u g2 25 #[.bool false, .slice none 0 0, .slice none 0 0, .slice none 0 0]) gN 25 #[.bool true, .slice A1 j c1, .slice A2 j c2, .slice none 0 0] [⟨9, 1, j, sv D.ks, .slice A1 j c1⟩, ⟨9, 1, j, sv D.vs, .slice A2 j c2⟩, ⟨3, 1, 0, [], .slice none 0 0⟩] wr)
  case atStart => exact ⟨0, dpairs true r0 0, none, 0, none, 0, rfl, by omega, Lib.hid rfl, hS⟩
  case round =>
    obtain ⟨j, D, A1, c1, A2, c2, rfl, hjk, hD, hX0⟩ := hrel
    have c0 : wr.cell? ⟨gN, 0, none⟩ = some (.bool true) := hX0.nod.cell 0
    have hgd := rrgood_calls gR _ wr hX0.rd.1
    have hxe := hX0.ext
    have hres := hX0.rd.2
    cases hbad : D.r.bad with
    | true =>
      have HT : Hid (decTail true cnt r0 = none) := Lib.hid (decTail_bad (j := j) true hok (by omega) (by rw [← hD.out]; exact hbad))
      rw [hbad] at hgd
      clear hX0
      by_cases hlt : j < cnt
      all_goals
        go_wp2_with (first
          | (go_at_call 28; ((with_reducible refine hgd.mono ?_); rintro e w' ⟨rfl, rfl⟩))
          | (refine wpList_store_blk rfl 25 (.tmp 2) (.tmp 85) rfl rfl g2 ndZ rfl rfl _ _ hres rfl (by kernel_rfl) (by simp [Value.oneCell']) ?_; intro w5 hb5 hg5))
        refine bodyPost_ret (results_row_tmp (P := Try.prog) (fn := Try.f16) rfl _ _ g2 25 ndZ _ rfl hb5 Try.underlying25 rfl (by kernel_rfl)) rfl ?_
        exact rdecPost_none (hxe.grown_ hg5 (by intro k hk; cases hk; exact hl2w)) HT.out
    | false =>
      rw [hbad] at hgd
      by_cases hlt : j < cnt
      · obtain ⟨gk', rfl⟩ : ∃ k, gk = k + 1 := ⟨gk - 1, by omega⟩
        go_wp2_with (go_at_call 28; ((with_reducible refine hgd.mono ?_); rintro e w' ⟨rfl, rfl⟩))
        refine wp_region_opsC (CInv [36, 37, 38, 39, 40, 41, 42] _ [(0, 36, .pointer (some ⟨gN, 1, none⟩)), (1, 37, .slice A1 j c1), (2, 38, .pointer (some ⟨gR, 0, none⟩)), (6, 42, .pointer (some ⟨gN, 1, none⟩))] [(3, some 39), (4, some 40), (5, some 41), (7, none)] (PushW (OW w B (fun u => RRdr u gR D.r ∧ Blk u g2 25 #[.bool false, .slice none 0 0, .slice none 0 0, .slice none 0 0]) gN 25 #[.bool true, .slice A1 j c1, .slice A2 j c2, .slice none 0 0] [⟨9, 1, j, sv D.ks, .slice A1 j c1⟩, ⟨9, 1, j, sv D.vs, .slice A2 j c2⟩, ⟨3, 1, 0, [], .slice none 0 0⟩]) (OW w B (fun u => RRdr u gR (D.r.text 48).2 ∧ Blk u g2 25 #[.bool false, .slice none 0 0, .slice none 0 0, .slice none 0 0]) gN 25 #[.bool true, .slice A1 j c1, .slice A2 j c2, .slice none 0 0] [⟨9, 1, j, sv D.ks, .slice A1 j c1⟩, ⟨9, 1, j, sv D.vs, .slice A2 j c2⟩, ⟨3, 1, 0, [], .slice none 0 0⟩]) ((Value.string (bstr (D.r.text 48).1))) [Value.string (bstr (D.r.text 48).1)] (fun v => OW w B (fun u => RRdr u gR (D.r.text 48).2 ∧ Blk u g2 25 #[.bool false, .slice none 0 0, .slice none 0 0, .slice none 0 0]) gN 25 #[.bool true, .slice A1 j c1, .slice A2 j c2, .slice none 0 0] [⟨9, 1, j + 1, sv D.ks ++ [Value.string (bstr (D.r.text 48).1)], v⟩, ⟨9, 1, j, sv D.vs, .slice A2 j c2⟩, ⟨3, 1, 0, [], .slice none 0 0⟩]) (fun v => OW w B (fun u => RRdr u gR (D.r.text 48).2 ∧ Blk u g2 25 #[.bool false, .slice none 0 0, .slice none 0 0, .slice none 0 0]) gN 25 #[.bool true, v, .slice A2 j c2, .slice none 0 0] [⟨9, 1, j + 1, sv D.ks ++ [Value.string (bstr (D.r.text 48).1)], v⟩, ⟨9, 1, j, sv D.vs, .slice A2 j c2⟩, ⟨3, 1, 0, [], .slice none 0 0⟩]))) (by kernel_rfl) (by kernel_rfl) (CInv.start (OW.more hX0 (rdec_stays hlRB hl2B) ((Ext.refl _).drew))) ?_ ?_
        · refine ⟨?o0, ?o1, ?o2, ?o3, ?o4, ?o5, ?o6, ?o7, trivial⟩
          case o0 =>
            intro f a u h hfi hp hq hcl
            have q6 : a.tmps[6]?.getD undef = .pointer (some ⟨gN, 0, none⟩) := h.agree.att (by decide)
            exact h.yield rfl rfl 36 rfl (by change 36 < 87; decide) rfl _ rfl (by go_simp)
          case o1 =>
            intro f a u h hfi hp hq hcl
            have q36 := h.att 0 rfl (pre_of hp 0 rfl)
            obtain ⟨xs, hx, hl⟩ := h.before 2 rfl (hq 5 _ rfl rfl)
            have hN := PushW.ahead (N := fun u => Blk u gN 25 #[.bool true, .slice A1 j c1, .slice A2 j c2, .slice none 0 0]) hx (by omega) (fun _ h => h.nod) (fun _ h => h.nod) (fun _ _ h => h.nod)
            have c1 : u.cell? ⟨gN, 1, none⟩ = some (.slice A1 j c1) := hN.cell 1
            clear hN hx
            exact h.yield rfl rfl 37 rfl (by change 37 < 87; decide) rfl _ rfl (by go_simp)
          case o2 =>
            intro f a u h hfi hp hq hcl
            have q4 : a.tmps[4]?.getD undef = .pointer (some ⟨gR, 0, none⟩) := h.agree.att (by decide)
            exact h.yield rfl rfl 38 rfl (by change 38 < 87; decide) rfl _ rfl (by go_simp)
          case o3 =>
            intro f a u h hfi hp hq hcl
            refine h.link hfi rfl rfl 0 _ rfl rfl (fun t ht => by cases ht; change 39 < 87; decide) rfl (fun k c d' hk hc => by omega) ?_
            intro xs hl hX hv
            obtain rfl : xs = [] := List.eq_nil_of_length_eq_zero hl
            have hX : OW w B (fun u => RRdr u gR D.r ∧ Blk u g2 25 #[.bool false, .slice none 0 0, .slice none 0 0, .slice none 0 0]) gN 25 #[.bool true, .slice A1 j c1, .slice A2 j c2, .slice none 0 0] [⟨9, 1, j, sv D.ks, .slice A1 j c1⟩, ⟨9, 1, j, sv D.vs, .slice A2 j c2⟩, ⟨3, 1, 0, [], .slice none 0 0⟩] u := hX
            refine wp_call 29 #[.tmp 38, .const (.int .i64 48)] #[55, 3] _ rfl (by kernel_rfl) (by rw [arr2, h.at_ 2 rfl (pre_of hp 2 rfl), show a.eval (.const (.int .i64 48)) = .int .i64 48 from rfl]) (Calls.mono (rrtext_calls gR D.r 48 _ hX.rd.1 (by omega)) ?_)
            rintro e u' ⟨rfl, hr1, ht1⟩
            exact ⟨_, rfl, _, rfl, rfl, hX.turn ht1 ⟨hr1, hX.rd.2.grown ht1 (by intro e; cases e; omega)⟩ (fun k hk => by cases hk; exact ⟨by omega, by omega, by omega⟩)⟩
          case o4 =>
            intro f a u h hfi hp hq hcl
            refine h.link hfi rfl rfl 1 _ rfl rfl (fun t ht => by cases ht; change 40 < 87; decide) rfl (fun k c d' hk hc => by (have hk0 : k = 0 := (by omega)); subst hk0; cases hc; exact (pre_of hp 3 rfl)) ?_
            intro xs hl hX hv
            obtain ⟨s, rfl⟩ := len1 hl
            obtain ⟨hs, hX⟩ : s = _ ∧ OW w B (fun u => RRdr u gR (D.r.text 48).2 ∧ Blk u g2 25 #[.bool false, .slice none 0 0, .slice none 0 0, .slice none 0 0]) gN 25 #[.bool true, .slice A1 j c1, .slice A2 j c2, .slice none 0 0] [⟨9, 1, j, sv D.ks, .slice A1 j c1⟩, ⟨9, 1, j, sv D.vs, .slice A2 j c2⟩, ⟨3, 1, 0, [], .slice none 0 0⟩] u := hX
            have e39 := (hv 0 _ _ rfl (by decide)).trans hs
            refine wp_val (exec_buildSlice rfl (by rw [arr1]; simp only [show a.eval (.tmp 39) = _ from e39]; rfl)) (lit1_strs _ _) ?_
            exact ⟨_, rfl, hs, ⟨_, rfl, Cells.lit rfl [Value.string (bstr (D.r.text 48).1)] _ _⟩, hX.more (rdec_stays hlRB hl2B) ((Ext.refl _).alloc _)⟩
          case o5 =>
            intro f a u h hfi hp hq hcl
            refine h.link hfi rfl rfl 2 _ rfl rfl (fun t ht => by cases ht; change 41 < 87; decide) rfl (fun k c d' hk hc => by (have hk0 : k = 1 := (by omega)); subst hk0; cases hc; exact (pre_of hp 4 rfl)) ?_
            intro xs hl hX hv
            obtain ⟨s, l, rfl⟩ := len2 hl
            obtain ⟨hs, ⟨g, rfl, hc⟩, hX⟩ : s = _ ∧ (∃ g, l = _ ∧ _) ∧ OW w B (fun u => RRdr u gR (D.r.text 48).2 ∧ Blk u g2 25 #[.bool false, .slice none 0 0, .slice none 0 0, .slice none 0 0]) gN 25 #[.bool true, .slice A1 j c1, .slice A2 j c2, .slice none 0 0] [⟨9, 1, j, sv D.ks, .slice A1 j c1⟩, ⟨9, 1, j, sv D.vs, .slice A2 j c2⟩, ⟨3, 1, 0, [], .slice none 0 0⟩] u := hX
            have el := hv 1 _ _ rfl (by decide)
            refine wp_append u (.tmp 37) (.tmp 40) 22 rfl B 9 (.string ByteArray.empty) 1 16 Try.underlying22 (by kernel_rfl) rfl (by decide) _ j _ (h.at_ 1 rfl (pre_of hp 1 rfl)) (hX.own 0 _ rfl) (some ⟨g, 0, none⟩) 1 1 [Value.string (bstr (D.r.text 48).1)] el rfl hc (by intro u hu; simp only [List.mem_singleton] at hu; subst hu; rfl) (by simp only [maxLen]; omega) (by omega) hX.hB ?_
            intro v' u' ho hg hf
            exact ⟨_, rfl, hs, hX.app (rdec_stays hlRB hl2B) hlNB hl0B (i := 0) rfl ho hg hf⟩
          case o6 =>
            intro f a u h hfi hp hq hcl
            have q6 : a.tmps[6]?.getD undef = .pointer (some ⟨gN, 0, none⟩) := h.agree.att (by decide)
            exact h.yield rfl rfl 42 rfl (by change 42 < 87; decide) rfl _ rfl (by go_simp)
          case o7 =>
            intro f a u h hfi hp hq hcl
            refine h.link hfi rfl rfl 3 _ rfl rfl (fun t ht => by cases ht) rfl (fun k c d' hk hc => by (have hk0 : k = 2 := (by omega)); subst hk0; cases hc; exact (pre_of hp 5 rfl)) ?_
            intro xs hl hX hv
            obtain ⟨s, l, v, rfl⟩ := len3 hl
            obtain ⟨hs, hX⟩ : s = _ ∧ OW w B (fun u => RRdr u gR (D.r.text 48).2 ∧ Blk u g2 25 #[.bool false, .slice none 0 0, .slice none 0 0, .slice none 0 0]) gN 25 #[.bool true, .slice A1 j c1, .slice A2 j c2, .slice none 0 0] [⟨9, 1, j + 1, sv D.ks ++ [Value.string (bstr (D.r.text 48).1)], v⟩, ⟨9, 1, j, sv D.vs, .slice A2 j c2⟩, ⟨3, 1, 0, [], .slice none 0 0⟩] u := hX
            have ev := hv 2 _ _ rfl (by decide)
            obtain ⟨Av, cv, hvv, _, _, _⟩ := own_form (hX.own 0 _ rfl) (by show 0 < 1; decide)
            have hvv : v = .slice Av (j + 1) cv := hvv
            subst hvv
            have c1 : u.cell? ⟨gN, 1, none⟩ = some (.slice A1 j c1) := hX.nod.cell 1
            have f1 := hX.nod.frozen 1
            refine wp_store_cell 22 (.tmp 42) (.tmp 41) rfl rfl (h.at_ 3 rfl (pre_of hp 6 rfl)) ev (store_strs _ _ _ _ _ _ c1 f1) ?_
            exact ⟨.tuple #[], rfl, hs, hX.sto (grown_set u gN 1 _) (blk_set hX.nod 1 _) (rdec_after hX.rd (by omega) (by omega) _ _) hlNB hl0N⟩
        · intro f a u h hall hfar
          obtain ⟨xs, hxl, hX, hv⟩ := h.done (by intro c hc; simp only [List.mem_cons, List.not_mem_nil, or_false] at hc; rcases hc with rfl | rfl | rfl | rfl; all_goals exact hall _ (by decide))
          obtain ⟨s, l, v, t, rfl⟩ := len4 hxl
          have hX : OW w B (fun u => RRdr u gR (D.r.text 48).2 ∧ Blk u g2 25 #[.bool false, .slice none 0 0, .slice none 0 0, .slice none 0 0]) gN 25 #[.bool true, v, .slice A2 j c2, .slice none 0 0] [⟨9, 1, j + 1, sv D.ks ++ [Value.string (bstr (D.r.text 48).1)], v⟩, ⟨9, 1, j, sv D.vs, .slice A2 j c2⟩, ⟨3, 1, 0, [], .slice none 0 0⟩] u := hX.2
          have hag := h.agree.out
          simp only [List.foldl_cons, List.foldl_nil, Act.put, List.setIfInBounds_toArray, List.set_cons_zero, List.set_cons_succ] at hag
          generalize a.eval (.tmp 36) = y36 at hag
          generalize a.eval (.tmp 37) = y37 at hag
          generalize a.eval (.tmp 38) = y38 at hag
          generalize a.eval (.tmp 39) = y39 at hag
          generalize a.eval (.tmp 40) = y40 at hag
          generalize a.eval (.tmp 41) = y41 at hag
          generalize a.eval (.tmp 42) = y42 at hag
          clear h hall hfar hxl hv
          subst hag
          obtain ⟨Av1, cv1, hvv, lv, mv, hcv⟩ := own_form (hX.own 0 _ rfl) (by show 0 < 1; decide)
          have hvv : v = .slice Av1 (j + 1) cv1 := hvv
          subst hvv
          clear lv mv hcv
          have c0 : u.cell? ⟨gN, 0, none⟩ = some (.bool true) := hX.nod.cell 0
          go_wp2
          refine wp_region_opsC (CInv [45, 46, 47, 48, 49, 50, 51] _ [(0, 45, .pointer (some ⟨gN, 2, none⟩)), (1, 46, .slice A2 j c2), (2, 47, .pointer (some ⟨gR, 0, none⟩)), (6, 51, .pointer (some ⟨gN, 2, none⟩))] [(3, some 48), (4, some 49), (5, some 50), (7, none)] (PushW (OW w B (fun u => RRdr u gR (D.r.text 48).2 ∧ Blk u g2 25 #[.bool false, .slice none 0 0, .slice none 0 0, .slice none 0 0]) gN 25 #[.bool true, .slice Av1 (j + 1) cv1, .slice A2 j c2, .slice none 0 0] [⟨9, 1, j + 1, sv D.ks ++ [Value.string (bstr (D.r.text 48).1)], .slice Av1 (j + 1) cv1⟩, ⟨9, 1, j, sv D.vs, .slice A2 j c2⟩, ⟨3, 1, 0, [], .slice none 0 0⟩]) (OW w B (fun u => RRdr u gR ((D.r.text 48).2.text 160).2 ∧ Blk u g2 25 #[.bool false, .slice none 0 0, .slice none 0 0, .slice none 0 0]) gN 25 #[.bool true, .slice Av1 (j + 1) cv1, .slice A2 j c2, .slice none 0 0] [⟨9, 1, j + 1, sv D.ks ++ [Value.string (bstr (D.r.text 48).1)], .slice Av1 (j + 1) cv1⟩, ⟨9, 1, j, sv D.vs, .slice A2 j c2⟩, ⟨3, 1, 0, [], .slice none 0 0⟩]) ((Value.string (bstr ((D.r.text 48).2.text 160).1))) [Value.string (bstr ((D.r.text 48).2.text 160).1)] (fun v => OW w B (fun u => RRdr u gR ((D.r.text 48).2.text 160).2 ∧ Blk u g2 25 #[.bool false, .slice none 0 0, .slice none 0 0, .slice none 0 0]) gN 25 #[.bool true, .slice Av1 (j + 1) cv1, .slice A2 j c2, .slice none 0 0] [⟨9, 1, j + 1, sv D.ks ++ [Value.string (bstr (D.r.text 48).1)], .slice Av1 (j + 1) cv1⟩, ⟨9, 1, j + 1, sv D.vs ++ [Value.string (bstr ((D.r.text 48).2.text 160).1)], v⟩, ⟨3, 1, 0, [], .slice none 0 0⟩]) (fun v => OW w B (fun u => RRdr u gR ((D.r.text 48).2.text 160).2 ∧ Blk u g2 25 #[.bool false, .slice none 0 0, .slice none 0 0, .slice none 0 0]) gN 25 #[.bool true, .slice Av1 (j + 1) cv1, v, .slice none 0 0] [⟨9, 1, j + 1, sv D.ks ++ [Value.string (bstr (D.r.text 48).1)], .slice Av1 (j + 1) cv1⟩, ⟨9, 1, j + 1, sv D.vs ++ [Value.string (bstr ((D.r.text 48).2.text 160).1)], v⟩, ⟨3, 1, 0, [], .slice none 0 0⟩]))) (by kernel_rfl) (by kernel_rfl) (CInv.start (OW.more hX (rdec_stays hlRB hl2B) ((Ext.refl _).drew))) ?_ ?_
          · refine ⟨?o0, ?o1, ?o2, ?o3, ?o4, ?o5, ?o6, ?o7, trivial⟩
            case o0 =>
              intro f a u h hfi hp hq hcl
              have q6 : a.tmps[6]?.getD undef = .pointer (some ⟨gN, 0, none⟩) := h.agree.att (by decide)
              exact h.yield rfl rfl 45 rfl (by change 45 < 87; decide) rfl _ rfl (by go_simp)
            case o1 =>
              intro f a u h hfi hp hq hcl
              have q45 := h.att 0 rfl (pre_of hp 0 rfl)
              obtain ⟨xs, hx, hl⟩ := h.before 2 rfl (hq 5 _ rfl rfl)
              have hN := PushW.ahead (N := fun u => Blk u gN 25 #[.bool true, .slice Av1 (j + 1) cv1, .slice A2 j c2, .slice none 0 0]) hx (by omega) (fun _ h => h.nod) (fun _ h => h.nod) (fun _ _ h => h.nod)
              have c1 : u.cell? ⟨gN, 2, none⟩ = some (.slice A2 j c2) := hN.cell 2
              clear hN hx
              exact h.yield rfl rfl 46 rfl (by change 46 < 87; decide) rfl _ rfl (by go_simp)
            case o2 =>
              intro f a u h hfi hp hq hcl
              have q4 : a.tmps[4]?.getD undef = .pointer (some ⟨gR, 0, none⟩) := h.agree.att (by decide)
              exact h.yield rfl rfl 47 rfl (by change 47 < 87; decide) rfl _ rfl (by go_simp)
            case o3 =>
              intro f a u h hfi hp hq hcl
              refine h.link hfi rfl rfl 0 _ rfl rfl (fun t ht => by cases ht; change 48 < 87; decide) rfl (fun k c d' hk hc => by omega) ?_
              intro xs hl hX hv
              obtain rfl : xs = [] := List.eq_nil_of_length_eq_zero hl
              have hX : OW w B (fun u => RRdr u gR (D.r.text 48).2 ∧ Blk u g2 25 #[.bool false, .slice none 0 0, .slice none 0 0, .slice none 0 0]) gN 25 #[.bool true, .slice Av1 (j + 1) cv1, .slice A2 j c2, .slice none 0 0] [⟨9, 1, j + 1, sv D.ks ++ [Value.string (bstr (D.r.text 48).1)], .slice Av1 (j + 1) cv1⟩, ⟨9, 1, j, sv D.vs, .slice A2 j c2⟩, ⟨3, 1, 0, [], .slice none 0 0⟩] u := hX
              refine wp_call 29 #[.tmp 47, .const (.int .i64 160)] #[55, 3] _ rfl (by kernel_rfl) (by rw [arr2, h.at_ 2 rfl (pre_of hp 2 rfl), show a.eval (.const (.int .i64 160)) = .int .i64 160 from rfl]) (Calls.mono (rrtext_calls gR (D.r.text 48).2 160 _ hX.rd.1 (by omega)) ?_)
              rintro e u' ⟨rfl, hr1, ht1⟩
              exact ⟨_, rfl, _, rfl, rfl, hX.turn ht1 ⟨hr1, hX.rd.2.grown ht1 (by intro e; cases e; omega)⟩ (fun k hk => by cases hk; exact ⟨by omega, by omega, by omega⟩)⟩
            case o4 =>
              intro f a u h hfi hp hq hcl
              refine h.link hfi rfl rfl 1 _ rfl rfl (fun t ht => by cases ht; change 49 < 87; decide) rfl (fun k c d' hk hc => by (have hk0 : k = 0 := (by omega)); subst hk0; cases hc; exact (pre_of hp 3 rfl)) ?_
              intro xs hl hX hv
              obtain ⟨s, rfl⟩ := len1 hl
              obtain ⟨hs, hX⟩ : s = _ ∧ OW w B (fun u => RRdr u gR ((D.r.text 48).2.text 160).2 ∧ Blk u g2 25 #[.bool false, .slice none 0 0, .slice none 0 0, .slice none 0 0]) gN 25 #[.bool true, .slice Av1 (j + 1) cv1, .slice A2 j c2, .slice none 0 0] [⟨9, 1, j + 1, sv D.ks ++ [Value.string (bstr (D.r.text 48).1)], .slice Av1 (j + 1) cv1⟩, ⟨9, 1, j, sv D.vs, .slice A2 j c2⟩, ⟨3, 1, 0, [], .slice none 0 0⟩] u := hX
              have e48 := (hv 0 _ _ rfl (by decide)).trans hs
              refine wp_val (exec_buildSlice rfl (by rw [arr1]; simp only [show a.eval (.tmp 48) = _ from e48]; rfl)) (lit1_strs _ _) ?_
              exact ⟨_, rfl, hs, ⟨_, rfl, Cells.lit rfl [Value.string (bstr ((D.r.text 48).2.text 160).1)] _ _⟩, hX.more (rdec_stays hlRB hl2B) ((Ext.refl _).alloc _)⟩
            case o5 =>
              intro f a u h hfi hp hq hcl
              refine h.link hfi rfl rfl 2 _ rfl rfl (fun t ht => by cases ht; change 50 < 87; decide) rfl (fun k c d' hk hc => by (have hk0 : k = 1 := (by omega)); subst hk0; cases hc; exact (pre_of hp 4 rfl)) ?_
              intro xs hl hX hv
              obtain ⟨s, l, rfl⟩ := len2 hl
              obtain ⟨hs, ⟨g, rfl, hc⟩, hX⟩ : s = _ ∧ (∃ g, l = _ ∧ _) ∧ OW w B (fun u => RRdr u gR ((D.r.text 48).2.text 160).2 ∧ Blk u g2 25 #[.bool false, .slice none 0 0, .slice none 0 0, .slice none 0 0]) gN 25 #[.bool true, .slice Av1 (j + 1) cv1, .slice A2 j c2, .slice none 0 0] [⟨9, 1, j + 1, sv D.ks ++ [Value.string (bstr (D.r.text 48).1)], .slice Av1 (j + 1) cv1⟩, ⟨9, 1, j, sv D.vs, .slice A2 j c2⟩, ⟨3, 1, 0, [], .slice none 0 0⟩] u := hX
              have el := hv 1 _ _ rfl (by decide)
              refine wp_append u (.tmp 46) (.tmp 49) 22 rfl B 9 (.string ByteArray.empty) 1 16 Try.underlying22 (by kernel_rfl) rfl (by decide) _ j _ (h.at_ 1 rfl (pre_of hp 1 rfl)) (hX.own 1 _ rfl) (some ⟨g, 0, none⟩) 1 1 [Value.string (bstr ((D.r.text 48).2.text 160).1)] el rfl hc (by intro u hu; simp only [List.mem_singleton] at hu; subst hu; rfl) (by simp only [maxLen]; omega) (by omega) hX.hB ?_
              intro v' u' ho hg hf
              exact ⟨_, rfl, hs, hX.app (rdec_stays hlRB hl2B) hlNB hl0B (i := 1) rfl ho hg hf⟩
            case o6 =>
              intro f a u h hfi hp hq hcl
              have q6 : a.tmps[6]?.getD undef = .pointer (some ⟨gN, 0, none⟩) := h.agree.att (by decide)
              exact h.yield rfl rfl 51 rfl (by change 51 < 87; decide) rfl _ rfl (by go_simp)
            case o7 =>
              intro f a u h hfi hp hq hcl
              refine h.link hfi rfl rfl 3 _ rfl rfl (fun t ht => by cases ht) rfl (fun k c d' hk hc => by (have hk0 : k = 2 := (by omega)); subst hk0; cases hc; exact (pre_of hp 5 rfl)) ?_
              intro xs hl hX hv
              obtain ⟨s, l, v, rfl⟩ := len3 hl
              obtain ⟨hs, hX⟩ : s = _ ∧ OW w B (fun u => RRdr u gR ((D.r.text 48).2.text 160).2 ∧ Blk u g2 25 #[.bool false, .slice none 0 0, .slice none 0 0, .slice none 0 0]) gN 25 #[.bool true, .slice Av1 (j + 1) cv1, .slice A2 j c2, .slice none 0 0] [⟨9, 1, j + 1, sv D.ks ++ [Value.string (bstr (D.r.text 48).1)], .slice Av1 (j + 1) cv1⟩, ⟨9, 1, j + 1, sv D.vs ++ [Value.string (bstr ((D.r.text 48).2.text 160).1)], v⟩, ⟨3, 1, 0, [], .slice none 0 0⟩] u := hX
              have ev := hv 2 _ _ rfl (by decide)
              obtain ⟨Av, cv, hvv, _, _, _⟩ := own_form (hX.own 1 _ rfl) (by show 0 < 1; decide)
              have hvv : v = .slice Av (j + 1) cv := hvv
              subst hvv
              have c1 : u.cell? ⟨gN, 2, none⟩ = some (.slice A2 j c2) := hX.nod.cell 2
              have f1 := hX.nod.frozen 2
              refine wp_store_cell 22 (.tmp 51) (.tmp 50) rfl rfl (h.at_ 3 rfl (pre_of hp 6 rfl)) ev (store_strs _ _ _ _ _ _ c1 f1) ?_
              exact ⟨.tuple #[], rfl, hs, hX.sto (grown_set u gN 2 _) (blk_set hX.nod 2 _) (rdec_after hX.rd (by omega) (by omega) _ _) hlNB hl0N⟩
          · intro f a u h hall hfar
            obtain ⟨xs, hxl, hX, hv⟩ := h.done (by intro c hc; simp only [List.mem_cons, List.not_mem_nil, or_false] at hc; rcases hc with rfl | rfl | rfl | rfl; all_goals exact hall _ (by decide))
            obtain ⟨s, l, v, t, rfl⟩ := len4 hxl
            have hX : OW w B (fun u => RRdr u gR ((D.r.text 48).2.text 160).2 ∧ Blk u g2 25 #[.bool false, .slice none 0 0, .slice none 0 0, .slice none 0 0]) gN 25 #[.bool true, .slice Av1 (j + 1) cv1, v, .slice none 0 0] [⟨9, 1, j + 1, sv D.ks ++ [Value.string (bstr (D.r.text 48).1)], .slice Av1 (j + 1) cv1⟩, ⟨9, 1, j + 1, sv D.vs ++ [Value.string (bstr ((D.r.text 48).2.text 160).1)], v⟩, ⟨3, 1, 0, [], .slice none 0 0⟩] u := hX.2
            have hag := h.agree.out
            simp only [List.foldl_cons, List.foldl_nil, Act.put, List.setIfInBounds_toArray, List.set_cons_zero, List.set_cons_succ] at hag
            generalize a.eval (.tmp 45) = y45 at hag
            generalize a.eval (.tmp 46) = y46 at hag
            generalize a.eval (.tmp 47) = y47 at hag
            generalize a.eval (.tmp 48) = y48 at hag
            generalize a.eval (.tmp 49) = y49 at hag
            generalize a.eval (.tmp 50) = y50 at hag
            generalize a.eval (.tmp 51) = y51 at hag
            clear h hall hfar hxl hv
            subst hag
            obtain ⟨Av2, cv2, hvv, lv, mv, hcv⟩ := own_form (hX.own 1 _ rfl) (by show 0 < 1; decide)
            have hvv : v = .slice Av2 (j + 1) cv2 := hvv
            subst hvv
            clear lv mv hcv
            go_wp2
            go_roundg gk'
            case measure => omega
            case rel =>
              rw [sv_snoc, sv_snoc] at hX
              exact ⟨j + 1, ⟨D.ks ++ [bstr (D.r.text 48).1], D.vs ++ [bstr ((D.r.text 48).2.text 160).1], ((D.r.text 48).2.text 160).2⟩, Av1, cv1, Av2, cv2, by go_num, by omega, Lib.hid (by rw [hD.out]; rfl), hX⟩
      · obtain rfl : j = cnt := by omega
        clear hlt hS
        have hks : D.ks.length = j := by rw [hD.out]; exact dpairs_ks _ _ _
        have hvs : D.vs.length = j := by rw [hD.out]; exact dpairs_vs _ _
        obtain ⟨hsk, hsv, _⟩ := dpairs_sizes true r0 140737488351232 hrl j
        rw [← hD.out] at hsk hsv
        obtain ⟨hNd, hf1, hf2, hf3⟩ := dec_fin true ⟨true, D.ks, D.vs, []⟩ hX0 hks hvs rfl (by omega) (by omega) (by omega) hsk hsv (by intro p hp; cases hp)
        have hT : decTail true j r0 = if !(Nd.good ⟨true, D.ks, D.vs, []⟩) then none else some ⟨true, D.ks, D.vs, []⟩ := by
          unfold decTail
          simp only [if_true]
          rw [← hD.out, hbad, Bool.false_or]
        obtain ⟨nd, hnd⟩ : ∃ nd : Nd, nd = ⟨true, D.ks, D.vs, []⟩ := ⟨_, rfl⟩
        have hndl : nd.leaf = true := by rw [hnd]
        rw [← hnd] at hNd hT
        have HT := Lib.hid hT
        have HNd := Lib.hid hNd
        have Hl := Lib.hid hndl
        have HN := Lib.hid hX0.nod
        clear hks hvs hsk hsv hT hNd hnd hndl hX0 hD c0
        obtain ⟨c0, c1', c2', c3'⟩ := node_cells HN.out
        have hgood := fun w' h => refGood_calls_l nd true Hl.out A1 A2 none j j 0 c1 c2 0 w' h
        cases hg : nd.good with
        | false =>
          rw [hg] at HT hgood
          go_wp2_with (first
            | (go_at_call 28; ((with_reducible refine hgd.mono ?_); rintro e w' ⟨rfl, rfl⟩))
            | (go_at_call 11; ((with_reducible refine (hgood _ HNd.out).mono ?_); rintro e w4 ⟨rfl, hx4⟩; have hres4 := hres.ext hx4))
            | (refine wpList_store_blk rfl 25 (.tmp 2) (.tmp 85) rfl rfl g2 ndZ rfl rfl _ _ hres4 rfl (by kernel_rfl) (by simp [Value.oneCell']) ?_; intro w5 hb5 hg5))
          refine bodyPost_ret (results_row_tmp (P := Try.prog) (fn := Try.f16) rfl _ _ g2 25 ndZ _ rfl hb5 Try.underlying25 rfl (by kernel_rfl)) rfl ?_
          exact rdecPost_none ((hxe.trans hx4).grown_ hg5 (by intro k hk; cases hk; exact hl2w)) HT.out
        | true =>
          rw [hg] at HT hgood
          go_wp2_with (first
            | (go_at_call 28; ((with_reducible refine hgd.mono ?_); rintro e w' ⟨rfl, rfl⟩))
            | (go_at_call 11; ((with_reducible refine (hgood _ HNd.out).mono ?_); rintro e w4 ⟨rfl, hx4⟩; have hres4 := hres.ext hx4; clear c0 c1' c2' c3'; obtain ⟨c0, c1', c2', c3'⟩ := node_cells (HN.out.ext hx4)))
            | (refine wpList_store_blk rfl 25 (.tmp 2) (.tmp 86) rfl rfl g2 #[.bool true, .slice A1 j c1, .slice A2 j c2, .slice none 0 0] rfl rfl _ _ hres4 rfl (by kernel_rfl) (by simp [Value.oneCell']) ?_; intro w5 hb5 hg5))
          refine bodyPost_ret (results_row_tmp (P := Try.prog) (fn := Try.f16) rfl _ _ g2 25 #[.bool true, .slice A1 j c1, .slice A2 j c2, .slice none 0 0] _ rfl hb5 Try.underlying25 rfl (by kernel_rfl)) rfl ?_
          exact rdecPost_some (hxe.trans hx4) hg5 hl2w hl2B Hl.out HT.out (HNd.out.ext hx4) hf1 hf2 hf3

set_option maxRecDepth 50000 in
set_option maxHeartbeats 4000000 in
theorem rdecode_inner (h cnt : Nat) (bs : List UInt8) (r0 : PR) (w : World) (hl : bs.length ≤ 140737488351232)
    (Hu : Hid ((PR.mk bs false).uint = (h, r0))) (e1 : (h : Int) % 2 = 0) (hok : r0.Ok) (e2 : (h : Int) / 2 = cnt) (hcn : cnt ≤ 512) (hrl : r0.b.length ≤ 140737488351232) :
    Calls Try.prog 16 #[.string (bstr bs)] w fun e w' => RDecPost (decTail false cnt r0) w e w' := by
  go_enter Try.func16, Try.ntmps16
  have hR1 := rread_new (w := w.alloc (.cells #[.bool false, .slice none 0 0, .slice none 0 0, .slice none 0 0] 25)) (g := w.heap.size + 1) (by simp) bs hl
  go_wp2_with (first
    | (go_at_call 27; ((with_reducible refine (rruint_calls (w.heap.size + 1) _ _ hR1).mono ?_); rintro e w2 ⟨rfl, hR2, ht2⟩; rw [Hu.out]; rw [Hu.out] at hR2))
    | (refine wpList_store_blk rfl 25 (.tmp 6) (.tmp 23) rfl rfl w2.heap.size #[.bool false, .slice none 0 0, .slice none 0 0, .slice none 0 0] rfl rfl _ _ (Blk.new_at rfl _ _) rfl (by kernel_rfl) (by simp [Value.oneCell']) ?_; intro w3 hN3 hg3; have hx23 : Ext w2 w3 := ((Ext.refl _).alloc _).grown_ hg3 (by simp)))
  obtain ⟨hS, hlRN', hlNB'⟩ := rdec_start false hR2 ht2 hx23 hN3
  obtain ⟨B, hB⟩ : ∃ B, B = w3.heap.size := ⟨_, rfl⟩
  obtain ⟨gN, hgN⟩ : ∃ g, g = w2.heap.size := ⟨_, rfl⟩
  obtain ⟨g2, hg2⟩ : ∃ g, g = w.heap.size := ⟨_, rfl⟩
  obtain ⟨gR, hgR⟩ : ∃ g, g = w.heap.size + 1 := ⟨_, rfl⟩
  have hl0B : w.heap.size ≤ B := by omega
  have hl0N : w.heap.size ≤ gN := by omega
  have hlRN : gR < gN := by omega
  have hlNB : gN < B := by omega
  have hlRB : gR < B := by omega
  have hl2B : g2 < B := by omega
  have hl2g : g2 < gR := by omega
  have hl2w : w.heap.size ≤ g2 := by omega
  have hl0R : w.heap.size ≤ gR := by omega
  rw [← hB, ← hgN, ← hgR, ← hg2] at hS
  rw [← hgN, ← hgR, ← hg2]
  clear hB hgN hg2 hgR hlRN' hlNB' hN3 hg3 hx23 hR2 hR1 ht2 e1
  go_loopg [8] cnt (fun gk i wr => ∃ (j : Nat) (D : DSt) (A1 : Option Addr) (c1 : Nat), i = .int .i64 j ∧ j + gk = cnt ∧ Hid (D = dpairs false r0 j) ∧ OW w B (fun u => RRdr u gR D.r ∧ Blk u g2 25 #[.bool false, .slice none 0 0, .slice none 0 0, .slice none 0 0]) gN 25 #[.bool false, .slice A1 j c1, .slice none 0 0, .slice none 0 0] [⟨9, 1, j, sv D.ks, .slice A1 j c1⟩, ⟨9, 1, 0, [], .slice none 0 0⟩, ⟨3, 1, 0, [], .slice none 0 0⟩] wr)
  case atStart => exact ⟨0, dpairs false r0 0, none, 0, rfl, by omega, Lib.hid rfl, hS⟩
  case round =>
    obtain ⟨j, D, A1, c1, rfl, hjk, hD, hX0⟩ := hrel
    have c0 : wr.cell? ⟨gN, 0, none⟩ = some (.bool false) := hX0.nod.cell 0
    have hgd := rrgood_calls gR _ wr hX0.rd.1
    cases hbad : D.r.bad with
    | true =>
      have HT : Hid (decTail false cnt r0 = none) := Lib.hid (decTail_bad (j := j) false hok (by omega) (by rw [← hD.out]; exact hbad))
      rw [hbad] at hgd
      have hxe := hX0.ext
      have hres := hX0.rd.2
      clear hX0
      by_cases hlt : j < cnt
      all_goals
        go_wp2_with (go_at_call 28; ((with_reducible refine hgd.mono ?_); rintro e w' ⟨rfl, rfl⟩))
        go_loopg [9] 0 (fun gk2 i2 wq => i2 = .int .i64 0 ∧ wq = wr)
        case atStart => exact ⟨rfl, rfl⟩
        case round =>
          obtain ⟨rfl, rfl⟩ := hrel
          have hp1 : (0 : Int) < (cnt : Int) + 1 := by omega
          go_wp2_with (first
            | (go_at_call 28; ((with_reducible refine hgd.mono ?_); rintro e w' ⟨rfl, rfl⟩))
            | (refine wpList_store_blk rfl 25 (.tmp 2) (.tmp 85) rfl rfl g2 ndZ rfl rfl _ _ hres rfl (by kernel_rfl) (by simp [Value.oneCell']) ?_; intro w5 hb5 hg5))
          refine bodyPost_ret (results_row_tmp (P := Try.prog) (fn := Try.f16) rfl _ _ g2 25 ndZ _ rfl hb5 Try.underlying25 rfl (by kernel_rfl)) rfl ?_
          exact rdecPost_none (hxe.grown_ hg5 (by intro k hk; cases hk; exact hl2w)) HT.out
    | false =>
      rw [hbad] at hgd
      by_cases hlt : j < cnt
      · obtain ⟨gk', rfl⟩ : ∃ k, gk = k + 1 := ⟨gk - 1, by omega⟩
        go_wp2_with (go_at_call 28; ((with_reducible refine hgd.mono ?_); rintro e w' ⟨rfl, rfl⟩))
        refine wp_region_opsC (CInv [36, 37, 38, 39, 40, 41, 42] _ [(0, 36, .pointer (some ⟨gN, 1, none⟩)), (1, 37, .slice A1 j c1), (2, 38, .pointer (some ⟨gR, 0, none⟩)), (6, 42, .pointer (some ⟨gN, 1, none⟩))] [(3, some 39), (4, some 40), (5, some 41), (7, none)] (PushW (OW w B (fun u => RRdr u gR D.r ∧ Blk u g2 25 #[.bool false, .slice none 0 0, .slice none 0 0, .slice none 0 0]) gN 25 #[.bool false, .slice A1 j c1, .slice none 0 0, .slice none 0 0] [⟨9, 1, j, sv D.ks, .slice A1 j c1⟩, ⟨9, 1, 0, [], .slice none 0 0⟩, ⟨3, 1, 0, [], .slice none 0 0⟩]) (OW w B (fun u => RRdr u gR (D.r.text 48).2 ∧ Blk u g2 25 #[.bool false, .slice none 0 0, .slice none 0 0, .slice none 0 0]) gN 25 #[.bool false, .slice A1 j c1, .slice none 0 0, .slice none 0 0] [⟨9, 1, j, sv D.ks, .slice A1 j c1⟩, ⟨9, 1, 0, [], .slice none 0 0⟩, ⟨3, 1, 0, [], .slice none 0 0⟩]) ((Value.string (bstr (D.r.text 48).1))) [Value.string (bstr (D.r.text 48).1)] (fun v => OW w B (fun u => RRdr u gR (D.r.text 48).2 ∧ Blk u g2 25 #[.bool false, .slice none 0 0, .slice none 0 0, .slice none 0 0]) gN 25 #[.bool false, .slice A1 j c1, .slice none 0 0, .slice none 0 0] [⟨9, 1, j + 1, sv D.ks ++ [Value.string (bstr (D.r.text 48).1)], v⟩, ⟨9, 1, 0, [], .slice none 0 0⟩, ⟨3, 1, 0, [], .slice none 0 0⟩]) (fun v => OW w B (fun u => RRdr u gR (D.r.text 48).2 ∧ Blk u g2 25 #[.bool false, .slice none 0 0, .slice none 0 0, .slice none 0 0]) gN 25 #[.bool false, v, .slice none 0 0, .slice none 0 0] [⟨9, 1, j + 1, sv D.ks ++ [Value.string (bstr (D.r.text 48).1)], v⟩, ⟨9, 1, 0, [], .slice none 0 0⟩, ⟨3, 1, 0, [], .slice none 0 0⟩]))) (by kernel_rfl) (by kernel_rfl) (CInv.start (OW.more hX0 (rdec_stays hlRB hl2B) ((Ext.refl _).drew))) ?_ ?_
        · refine ⟨?o0, ?o1, ?o2, ?o3, ?o4, ?o5, ?o6, ?o7, trivial⟩
          case o0 =>
            intro f a u h hfi hp hq hcl
            have q6 : a.tmps[6]?.getD undef = .pointer (some ⟨gN, 0, none⟩) := h.agree.att (by decide)
            exact h.yield rfl rfl 36 rfl (by change 36 < 87; decide) rfl _ rfl (by go_simp)
          case o1 =>
            intro f a u h hfi hp hq hcl
            have q36 := h.att 0 rfl (pre_of hp 0 rfl)
            obtain ⟨xs, hx, hl⟩ := h.before 2 rfl (hq 5 _ rfl rfl)
            have hN := PushW.ahead (N := fun u => Blk u gN 25 #[.bool false, .slice A1 j c1, .slice none 0 0, .slice none 0 0]) hx (by omega) (fun _ h => h.nod) (fun _ h => h.nod) (fun _ _ h => h.nod)
            have c1 : u.cell? ⟨gN, 1, none⟩ = some (.slice A1 j c1) := hN.cell 1
            clear hN hx
            exact h.yield rfl rfl 37 rfl (by change 37 < 87; decide) rfl _ rfl (by go_simp)
          case o2 =>
            intro f a u h hfi hp hq hcl
            have q4 : a.tmps[4]?.getD undef = .pointer (some ⟨gR, 0, none⟩) := h.agree.att (by decide)
            exact h.yield rfl rfl 38 rfl (by change 38 < 87; decide) rfl _ rfl (by go_simp)
          case o3 =>
            intro f a u h hfi hp hq hcl
            refine h.link hfi rfl rfl 0 _ rfl rfl (fun t ht => by cases ht; change 39 < 87; decide) rfl (fun k c d' hk hc => by omega) ?_
            intro xs hl hX hv
            obtain rfl : xs = [] := List.eq_nil_of_length_eq_zero hl
            have hX : OW w B (fun u => RRdr u gR D.r ∧ Blk u g2 25 #[.bool false, .slice none 0 0, .slice none 0 0, .slice none 0 0]) gN 25 #[.bool false, .slice A1 j c1, .slice none 0 0, .slice none 0 0] [⟨9, 1, j, sv D.ks, .slice A1 j c1⟩, ⟨9, 1, 0, [], .slice none 0 0⟩, ⟨3, 1, 0, [], .slice none 0 0⟩] u := hX
            refine wp_call 29 #[.tmp 38, .const (.int .i64 48)] #[55, 3] _ rfl (by kernel_rfl) (by rw [arr2, h.at_ 2 rfl (pre_of hp 2 rfl), show a.eval (.const (.int .i64 48)) = .int .i64 48 from rfl]) (Calls.mono (rrtext_calls gR D.r 48 _ hX.rd.1 (by omega)) ?_)
            rintro e u' ⟨rfl, hr1, ht1⟩
            exact ⟨_, rfl, _, rfl, rfl, hX.turn ht1 ⟨hr1, hX.rd.2.grown ht1 (by intro e; cases e; omega)⟩ (fun k hk => by cases hk; exact ⟨by omega, by omega, by omega⟩)⟩
          case o4 =>
            intro f a u h hfi hp hq hcl
            refine h.link hfi rfl rfl 1 _ rfl rfl (fun t ht => by cases ht; change 40 < 87; decide) rfl (fun k c d' hk hc => by (have hk0 : k = 0 := (by omega)); subst hk0; cases hc; exact (pre_of hp 3 rfl)) ?_
            intro xs hl hX hv
            obtain ⟨s, rfl⟩ := len1 hl
            obtain ⟨hs, hX⟩ : s = _ ∧ OW w B (fun u => RRdr u gR (D.r.text 48).2 ∧ Blk u g2 25 #[.bool false, .slice none 0 0, .slice none 0 0, .slice none 0 0]) gN 25 #[.bool false, .slice A1 j c1, .slice none 0 0, .slice none 0 0] [⟨9, 1, j, sv D.ks, .slice A1 j c1⟩, ⟨9, 1, 0, [], .slice none 0 0⟩, ⟨3, 1, 0, [], .slice none 0 0⟩] u := hX
            have e39 := (hv 0 _ _ rfl (by decide)).trans hs
            refine wp_val (exec_buildSlice rfl (by rw [arr1]; simp only [show a.eval (.tmp 39) = _ from e39]; rfl)) (lit1_strs _ _) ?_
            exact ⟨_, rfl, hs, ⟨_, rfl, Cells.lit rfl [Value.string (bstr (D.r.text 48).1)] _ _⟩, hX.more (rdec_stays hlRB hl2B) ((Ext.refl _).alloc _)⟩
          case o5 =>
            intro f a u h hfi hp hq hcl
            refine h.link hfi rfl rfl 2 _ rfl rfl (fun t ht => by cases ht; change 41 < 87; decide) rfl (fun k c d' hk hc => by (have hk0 : k = 1 := (by omega)); subst hk0; cases hc; exact (pre_of hp 4 rfl)) ?_
            intro xs hl hX hv
            obtain ⟨s, l, rfl⟩ := len2 hl
            obtain ⟨hs, ⟨g, rfl, hc⟩, hX⟩ : s = _ ∧ (∃ g, l = _ ∧ _) ∧ OW w B (fun u => RRdr u gR (D.r.text 48).2 ∧ Blk u g2 25 #[.bool false, .slice none 0 0, .slice none 0 0, .slice none 0 0]) gN 25 #[.bool false, .slice A1 j c1, .slice none 0 0, .slice none 0 0] [⟨9, 1, j, sv D.ks, .slice A1 j c1⟩, ⟨9, 1, 0, [], .slice none 0 0⟩, ⟨3, 1, 0, [], .slice none 0 0⟩] u := hX
            have el := hv 1 _ _ rfl (by decide)
            refine wp_append u (.tmp 37) (.tmp 40) 22 rfl B 9 (.string ByteArray.empty) 1 16 Try.underlying22 (by kernel_rfl) rfl (by decide) _ j _ (h.at_ 1 rfl (pre_of hp 1 rfl)) (hX.own 0 _ rfl) (some ⟨g, 0, none⟩) 1 1 [Value.string (bstr (D.r.text 48).1)] el rfl hc (by intro u hu; simp only [List.mem_singleton] at hu; subst hu; rfl) (by simp only [maxLen]; omega) (by omega) hX.hB ?_
            intro v' u' ho hg hf
            exact ⟨_, rfl, hs, hX.app (rdec_stays hlRB hl2B) hlNB hl0B (i := 0) rfl ho hg hf⟩
          case o6 =>
            intro f a u h hfi hp hq hcl
            have q6 : a.tmps[6]?.getD undef = .pointer (some ⟨gN, 0, none⟩) := h.agree.att (by decide)
            exact h.yield rfl rfl 42 rfl (by change 42 < 87; decide) rfl _ rfl (by go_simp)
          case o7 =>
            intro f a u h hfi hp hq hcl
            refine h.link hfi rfl rfl 3 _ rfl rfl (fun t ht => by cases ht) rfl (fun k c d' hk hc => by (have hk0 : k = 2 := (by omega)); subst hk0; cases hc; exact (pre_of hp 5 rfl)) ?_
            intro xs hl hX hv
            obtain ⟨s, l, v, rfl⟩ := len3 hl
            obtain ⟨hs, hX⟩ : s = _ ∧ OW w B (fun u => RRdr u gR (D.r.text 48).2 ∧ Blk u g2 25 #[.bool false, .slice none 0 0, .slice none 0 0, .slice none 0 0]) gN 25 #[.bool false, .slice A1 j c1, .slice none 0 0, .slice none 0 0] [⟨9, 1, j + 1, sv D.ks ++ [Value.string (bstr (D.r.text 48).1)], v⟩, ⟨9, 1, 0, [], .slice none 0 0⟩, ⟨3, 1, 0, [], .slice none 0 0⟩] u := hX
            have ev := hv 2 _ _ rfl (by decide)
            obtain ⟨Av, cv, hvv, _, _, _⟩ := own_form (hX.own 0 _ rfl) (by show 0 < 1; decide)
            have hvv : v = .slice Av (j + 1) cv := hvv
            subst hvv
            have c1 : u.cell? ⟨gN, 1, none⟩ = some (.slice A1 j c1) := hX.nod.cell 1
            have f1 := hX.nod.frozen 1
            refine wp_store_cell 22 (.tmp 42) (.tmp 41) rfl rfl (h.at_ 3 rfl (pre_of hp 6 rfl)) ev (store_strs _ _ _ _ _ _ c1 f1) ?_
            exact ⟨.tuple #[], rfl, hs, hX.sto (grown_set u gN 1 _) (blk_set hX.nod 1 _) (rdec_after hX.rd (by omega) (by omega) _ _) hlNB hl0N⟩
        · intro f a u h hall hfar
          obtain ⟨xs, hxl, hX, hv⟩ := h.done (by intro c hc; simp only [List.mem_cons, List.not_mem_nil, or_false] at hc; rcases hc with rfl | rfl | rfl | rfl; all_goals exact hall _ (by decide))
          obtain ⟨s, l, v, t, rfl⟩ := len4 hxl
          have hX : OW w B (fun u => RRdr u gR (D.r.text 48).2 ∧ Blk u g2 25 #[.bool false, .slice none 0 0, .slice none 0 0, .slice none 0 0]) gN 25 #[.bool false, v, .slice none 0 0, .slice none 0 0] [⟨9, 1, j + 1, sv D.ks ++ [Value.string (bstr (D.r.text 48).1)], v⟩, ⟨9, 1, 0, [], .slice none 0 0⟩, ⟨3, 1, 0, [], .slice none 0 0⟩] u := hX.2
          have hag := h.agree.out
          simp only [List.foldl_cons, List.foldl_nil, Act.put, List.setIfInBounds_toArray, List.set_cons_zero, List.set_cons_succ] at hag
          generalize a.eval (.tmp 36) = y36 at hag
          generalize a.eval (.tmp 37) = y37 at hag
          generalize a.eval (.tmp 38) = y38 at hag
          generalize a.eval (.tmp 39) = y39 at hag
          generalize a.eval (.tmp 40) = y40 at hag
          generalize a.eval (.tmp 41) = y41 at hag
          generalize a.eval (.tmp 42) = y42 at hag
          clear h hall hfar hxl hv
          subst hag
          obtain ⟨Av1, cv1, hvv, lv, mv, hcv⟩ := own_form (hX.own 0 _ rfl) (by show 0 < 1; decide)
          have hvv : v = .slice Av1 (j + 1) cv1 := hvv
          subst hvv
          clear lv mv hcv
          have c0 : u.cell? ⟨gN, 0, none⟩ = some (.bool false) := hX.nod.cell 0
          go_wp2
          go_roundg gk'
          case measure => omega
          case rel =>
            rw [sv_snoc] at hX
            exact ⟨j + 1, ⟨D.ks ++ [bstr (D.r.text 48).1], D.vs, (D.r.text 48).2⟩, Av1, cv1, by go_num, by omega, Lib.hid (by rw [hD.out]; rfl), hX⟩
      · obtain rfl : j = cnt := by omega
        clear hlt hS
        have hokD : D.r.Ok := by rw [hD.out]; exact dpairs_ok _ hok _
        go_wp2_with (go_at_call 28; ((with_reducible refine hgd.mono ?_); rintro e w' ⟨rfl, rfl⟩))
        clear hgd c0
        go_loopg [9] (j + 1) (fun gk2 i2 wq => ∃ (j2 : Nat) (D2 : KSt) (A3 : Option Addr) (c3 : Nat), i2 = .int .i64 j2 ∧ j2 + gk2 = j + 1 ∧ Hid (D2 = dkids D.r j2) ∧ OW w B (fun u => RRdr u gR D2.r ∧ Blk u g2 25 #[.bool false, .slice none 0 0, .slice none 0 0, .slice none 0 0]) gN 25 #[.bool false, .slice A1 j c1, .slice none 0 0, .slice A3 j2 c3] [⟨9, 1, j, sv D.ks, .slice A1 j c1⟩, ⟨9, 1, 0, [], .slice none 0 0⟩, ⟨3, 1, j2, iv D2.ds, .slice A3 j2 c3⟩] wq)
        case atStart => exact ⟨0, dkids D.r 0, none, 0, rfl, by omega, Lib.hid rfl, hX0⟩
        case round =>
          obtain ⟨j2, D2, A3, c3, rfl, hjk2, hD2, hX2⟩ := hrel
          have c0 : wr.cell? ⟨gN, 0, none⟩ = some (.bool false) := hX2.nod.cell 0
          have hgd := rrgood_calls gR _ wr hX2.rd.1
          cases hbad2 : D2.r.bad with
          | true =>
            have HT : Hid (decTail false j r0 = none) := Lib.hid (decTail_badk hok (j := j2) (by omega) (by rw [← hD.out, ← hD2.out]; exact hbad2))
            rw [hbad2] at hgd
            have hxe := hX2.ext
            have hres := hX2.rd.2
            clear hX2 hX0
            by_cases hlt2 : (j2 : Int) < (j : Int) + 1
            all_goals
              go_wp2_with (first
                | (go_at_call 28; ((with_reducible refine hgd.mono ?_); rintro e w' ⟨rfl, rfl⟩))
                | (refine wpList_store_blk rfl 25 (.tmp 2) (.tmp 85) rfl rfl g2 ndZ rfl rfl _ _ hres rfl (by kernel_rfl) (by simp [Value.oneCell']) ?_; intro w5 hb5 hg5))
              refine bodyPost_ret (results_row_tmp (P := Try.prog) (fn := Try.f16) rfl _ _ g2 25 ndZ _ rfl hb5 Try.underlying25 rfl (by kernel_rfl)) rfl ?_
              exact rdecPost_none (hxe.grown_ hg5 (by intro k hk; cases hk; exact hl2w)) HT.out
          | false =>
            rw [hbad2] at hgd
            by_cases hlt2 : (j2 : Int) < (j : Int) + 1
            · obtain ⟨gk2', rfl⟩ : ∃ k, gk = k + 1 := ⟨gk - 1, by omega⟩
              obtain ⟨p, hp⟩ : ∃ p, p = D2.r.uint.1 := ⟨_, rfl⟩
              have hru := rruint_calls gR D2.r wr hX2.rd.1
              rw [← hp] at hru
              by_cases hfar : 4095 < p
              · have HT : Hid (decTail false j r0 = none) := Lib.hid (decTail_far (j := j2) (by omega) (by rw [← hD.out, ← hD2.out, ← hp]; exact hfar))
                have hxe := hX2.ext
                have hres := hX2.rd.2
                clear hX2 hX0 hp
                go_wp2_with (first
                  | (go_at_call 28; ((with_reducible refine hgd.mono ?_); rintro e w' ⟨rfl, rfl⟩))
                  | (go_at_call 27; ((with_reducible refine hru.mono ?_); rintro e w4 ⟨rfl, hr4, ht4⟩; have hres4 := hres.grown ht4 (by intro e; cases e; omega); have hxe4 : Ext w w4 := Turns.ext ht4 hxe hl0R))
                  | (refine wpList_store_blk rfl 25 (.tmp 2) (.tmp 69) rfl rfl g2 ndZ rfl rfl _ _ hres4 rfl (by kernel_rfl) (by simp [Value.oneCell']) ?_; intro w5 hb5 hg5))
                refine bodyPost_ret (results_row_tmp (P := Try.prog) (fn := Try.f16) rfl _ _ g2 25 ndZ _ rfl hb5 Try.underlying25 rfl (by kernel_rfl)) rfl ?_
                exact rdecPost_none (hxe4.grown_ hg5 (by intro k hk; cases hk; exact hl2w)) HT.out
              · have hple : p ≤ 4095 := by omega
                have HP := Lib.hid hp
                clear hp
                go_upto_region 20 with (first
                  | (go_at_call 28; ((with_reducible refine hgd.mono ?_); rintro e w' ⟨rfl, rfl⟩))
                  | (go_at_call 27; ((with_reducible refine hru.mono ?_); rintro e w4 ⟨rfl, hr4, ht4⟩; have hX5 := hX2.turn (RP' := fun u => RRdr u gR D2.r.uint.2 ∧ Blk u g2 25 #[.bool false, .slice none 0 0, .slice none 0 0, .slice none 0 0]) ht4 ⟨hr4, hX2.rd.2.grown ht4 (by intro e; cases e; omega)⟩ (fun k hk => by cases hk; exact ⟨by omega, by omega, by omega⟩))))
                refine wp_region_text (CInv [70, 71, 72, 73, 74, 75, 76] _ [(0, 70, .pointer (some ⟨gN, 3, none⟩)), (1, 71, .slice A3 j2 c3), (2, 72, .int .u64 (p : Int)), (3, 73, .int .i64 (p : Int)), (6, 76, .pointer (some ⟨gN, 3, none⟩))] [(4, some 74), (5, some 75), (7, none)] (PutW (OW w B (fun u => RRdr u gR D2.r.uint.2 ∧ Blk u g2 25 #[.bool false, .slice none 0 0, .slice none 0 0, .slice none 0 0]) gN 25 #[.bool false, .slice A1 j c1, .slice none 0 0, .slice A3 j2 c3] [⟨9, 1, j, sv D.ks, .slice A1 j c1⟩, ⟨9, 1, 0, [], .slice none 0 0⟩, ⟨3, 1, j2, iv D2.ds, .slice A3 j2 c3⟩]) [Value.int .i64 (p : Int)] (fun v => OW w B (fun u => RRdr u gR D2.r.uint.2 ∧ Blk u g2 25 #[.bool false, .slice none 0 0, .slice none 0 0, .slice none 0 0]) gN 25 #[.bool false, .slice A1 j c1, .slice none 0 0, .slice A3 j2 c3] [⟨9, 1, j, sv D.ks, .slice A1 j c1⟩, ⟨9, 1, 0, [], .slice none 0 0⟩, ⟨3, 1, j2 + 1, iv D2.ds ++ [Value.int .i64 (p : Int)], v⟩]) (fun v => OW w B (fun u => RRdr u gR D2.r.uint.2 ∧ Blk u g2 25 #[.bool false, .slice none 0 0, .slice none 0 0, .slice none 0 0]) gN 25 #[.bool false, .slice A1 j c1, .slice none 0 0, v] [⟨9, 1, j, sv D.ks, .slice A1 j c1⟩, ⟨9, 1, 0, [], .slice none 0 0⟩, ⟨3, 1, j2 + 1, iv D2.ds ++ [Value.int .i64 (p : Int)], v⟩]))) (by kernel_rfl) (CInv.start hX5) ?_ ?_
                · refine ⟨?o0, ?o1, ?o2, ?o3, ?o4, ?o5, ?o6, ?o7, trivial⟩
                  case o0 =>
                    intro f a u h hfi hp hq
                    have q6 : a.tmps[6]?.getD undef = .pointer (some ⟨gN, 0, none⟩) := h.agree.att (by decide)
                    exact h.yield rfl rfl 70 rfl (by change 70 < 87; decide) rfl _ rfl (by go_simp)
                  case o1 =>
                    intro f a u h hfi hp hq
                    have q70 := h.att 0 rfl (pre_of hp 0 rfl)
                    obtain ⟨xs, hx, hl⟩ := h.before 1 rfl (hq 5 _ rfl rfl)
                    have hN := PutW.ahead (N := fun u => Blk u gN 25 #[.bool false, .slice A1 j c1, .slice none 0 0, .slice A3 j2 c3]) hx (by omega) (fun _ h => h.nod) (fun _ _ h => h.nod)
                    have c1 : u.cell? ⟨gN, 3, none⟩ = some (.slice A3 j2 c3) := hN.cell 3
                    clear hN hx
                    exact h.yield rfl rfl 71 rfl (by change 71 < 87; decide) rfl _ rfl (by go_simp)
                  case o2 =>
                    intro f a u h hfi hp hq
                    have q10 : a.tmps[10]?.getD undef = .int .u64 (p : Int) := h.agree.att (by decide)
                    exact h.yield rfl rfl 72 rfl (by change 72 < 87; decide) rfl _ rfl (by go_simp)
                  case o3 =>
                    intro f a u h hfi hp hq
                    have q72 := h.att 2 rfl (pre_of hp 2 rfl)
                    exact h.yield rfl rfl 73 rfl (by change 73 < 87; decide) rfl _ rfl (by go_simp; rw [IntKind.wrap_i64]; omega)
                  case o4 =>
                    intro f a u h hfi hp hq
                    refine h.link hfi rfl rfl 0 _ rfl rfl (fun t ht => by cases ht; change 74 < 87; decide) rfl (fun k c d' hk hc => by omega) ?_
                    intro xs hl hX hv
                    obtain rfl : xs = [] := List.eq_nil_of_length_eq_zero hl
                    have hX : OW w B (fun u => RRdr u gR D2.r.uint.2 ∧ Blk u g2 25 #[.bool false, .slice none 0 0, .slice none 0 0, .slice none 0 0]) gN 25 #[.bool false, .slice A1 j c1, .slice none 0 0, .slice A3 j2 c3] [⟨9, 1, j, sv D.ks, .slice A1 j c1⟩, ⟨9, 1, 0, [], .slice none 0 0⟩, ⟨3, 1, j2, iv D2.ds, .slice A3 j2 c3⟩] u := hX
                    have e73 := h.at_ 3 rfl (pre_of hp 3 rfl)
                    refine wp_val (exec_buildSlice rfl (by rw [arr1]; simp only [show a.eval (.tmp 73) = _ from e73]; rfl)) (lit1_ints _ _) ?_
                    exact ⟨_, rfl, ⟨_, rfl, Cells.lit rfl [Value.int .i64 (p : Int)] _ _⟩, hX.more (rdec_stays hlRB hl2B) ((Ext.refl _).alloc _)⟩
                  case o5 =>
                    intro f a u h hfi hp hq
                    refine h.link hfi rfl rfl 1 _ rfl rfl (fun t ht => by cases ht; change 75 < 87; decide) rfl (fun k c d' hk hc => by (have hk0 : k = 0 := (by omega)); subst hk0; cases hc; exact (pre_of hp 4 rfl)) ?_
                    intro xs hl hX hv
                    obtain ⟨l, rfl⟩ := len1 hl
                    obtain ⟨⟨g, rfl, hc⟩, hX⟩ : (∃ g, l = _ ∧ _) ∧ OW w B (fun u => RRdr u gR D2.r.uint.2 ∧ Blk u g2 25 #[.bool false, .slice none 0 0, .slice none 0 0, .slice none 0 0]) gN 25 #[.bool false, .slice A1 j c1, .slice none 0 0, .slice A3 j2 c3] [⟨9, 1, j, sv D.ks, .slice A1 j c1⟩, ⟨9, 1, 0, [], .slice none 0 0⟩, ⟨3, 1, j2, iv D2.ds, .slice A3 j2 c3⟩] u := hX
                    have el := hv 0 _ _ rfl (by decide)
                    refine wp_append u (.tmp 71) (.tmp 74) 23 rfl B 3 (.int .i64 0) 1 8 Try.underlying23 (by kernel_rfl) rfl (by decide) _ j2 _ (h.at_ 1 rfl (pre_of hp 1 rfl)) (hX.own 2 _ rfl) (some ⟨g, 0, none⟩) 1 1 [Value.int .i64 (p : Int)] el rfl hc (by intro u hu; simp only [List.mem_singleton] at hu; subst hu; rfl) (by simp only [maxLen]; omega) (by omega) hX.hB ?_
                    intro v' u' ho hg hf
                    exact ⟨_, rfl, hX.app (rdec_stays hlRB hl2B) hlNB hl0B (i := 2) rfl ho hg hf⟩
                  case o6 =>
                    intro f a u h hfi hp hq
                    have q6 : a.tmps[6]?.getD undef = .pointer (some ⟨gN, 0, none⟩) := h.agree.att (by decide)
                    exact h.yield rfl rfl 76 rfl (by change 76 < 87; decide) rfl _ rfl (by go_simp)
                  case o7 =>
                    intro f a u h hfi hp hq
                    refine h.link hfi rfl rfl 2 _ rfl rfl (fun t ht => by cases ht) rfl (fun k c d' hk hc => by (have hk0 : k = 1 := (by omega)); subst hk0; cases hc; exact (pre_of hp 5 rfl)) ?_
                    intro xs hl hX hv
                    obtain ⟨l, v, rfl⟩ := len2 hl
                    have hX : OW w B (fun u => RRdr u gR D2.r.uint.2 ∧ Blk u g2 25 #[.bool false, .slice none 0 0, .slice none 0 0, .slice none 0 0]) gN 25 #[.bool false, .slice A1 j c1, .slice none 0 0, .slice A3 j2 c3] [⟨9, 1, j, sv D.ks, .slice A1 j c1⟩, ⟨9, 1, 0, [], .slice none 0 0⟩, ⟨3, 1, j2 + 1, iv D2.ds ++ [Value.int .i64 (p : Int)], v⟩] u := hX
                    have ev := hv 1 _ _ rfl (by decide)
                    obtain ⟨Av, cv, hvv, _, _, _⟩ := own_form (hX.own 2 _ rfl) (by show 0 < 1; decide)
                    have hvv : v = .slice Av (j2 + 1) cv := hvv
                    subst hvv
                    have c1 : u.cell? ⟨gN, 3, none⟩ = some (.slice A3 j2 c3) := hX.nod.cell 3
                    have f1 := hX.nod.frozen 3
                    refine wp_store_cell 23 (.tmp 76) (.tmp 75) rfl rfl (h.at_ 4 rfl (pre_of hp 6 rfl)) ev (store_ints _ _ _ _ _ _ c1 f1) ?_
                    exact ⟨.tuple #[], rfl, hX.sto (grown_set u gN 3 _) (blk_set hX.nod 3 _) (rdec_after hX.rd (by omega) (by omega) _ _) hlNB hl0N⟩
                · intro f a u h hall hfar
                  obtain ⟨xs, hxl, hX, hv⟩ := h.done (by intro c hc; simp only [List.mem_cons, List.not_mem_nil, or_false] at hc; rcases hc with rfl | rfl | rfl; all_goals exact hall _ (by decide))
                  obtain ⟨l, v, t, rfl⟩ := len3 hxl
                  have hX : OW w B (fun u => RRdr u gR D2.r.uint.2 ∧ Blk u g2 25 #[.bool false, .slice none 0 0, .slice none 0 0, .slice none 0 0]) gN 25 #[.bool false, .slice A1 j c1, .slice none 0 0, v] [⟨9, 1, j, sv D.ks, .slice A1 j c1⟩, ⟨9, 1, 0, [], .slice none 0 0⟩, ⟨3, 1, j2 + 1, iv D2.ds ++ [Value.int .i64 (p : Int)], v⟩] u := hX
                  have hag := h.agree.out
                  simp only [List.foldl_cons, List.foldl_nil, Act.put, List.setIfInBounds_toArray, List.set_cons_zero, List.set_cons_succ] at hag
                  generalize a.eval (.tmp 70) = y70 at hag
                  generalize a.eval (.tmp 71) = y71 at hag
                  generalize a.eval (.tmp 72) = y72 at hag
                  generalize a.eval (.tmp 73) = y73 at hag
                  generalize a.eval (.tmp 74) = y74 at hag
                  generalize a.eval (.tmp 75) = y75 at hag
                  generalize a.eval (.tmp 76) = y76 at hag
                  clear h hall hfar hxl hv
                  subst hag
                  obtain ⟨Av3, cv3, hvv, lv, mv, hcv⟩ := own_form (hX.own 2 _ rfl) (by show 0 < 1; decide)
                  have hvv : v = .slice Av3 (j2 + 1) cv3 := hvv
                  subst hvv
                  clear lv mv hcv
                  go_wp2
                  go_roundg gk2'
                  case measure => omega
                  case rel =>
                    rw [iv_snoc] at hX
                    refine ⟨j2 + 1, ⟨D2.ds ++ [(p : Int)], D2.r.uint.2⟩, Av3, cv3, by go_num, by omega, Lib.hid ?_, hX⟩
                    show _ = kstep (dkids D.r j2)
                    rw [← hD2.out]
                    unfold kstep
                    rw [← HP.out, Nat.min_eq_left (by omega)]
            · obtain rfl : j2 = j + 1 := by omega
              have hks : D.ks.length = j := by rw [hD.out]; exact dpairs_ks _ _ _
              have hds : D2.ds.length = j + 1 := by rw [hD2.out]; exact dkids_ds _ _
              obtain ⟨hsk, _, _⟩ := dpairs_sizes false r0 140737488351232 hrl j
              have hsd := dkids_sizes D.r (j + 1)
              have hvs0 : D.vs = [] := by rw [hD.out]; exact dpairs_vs0 _ _
              rw [← hD.out] at hsk
              rw [← hD2.out] at hsd
              obtain ⟨hNd, hf1, hf2, hf3⟩ := dec_fin false ⟨false, D.ks, [], D2.ds⟩ hX2 hks rfl hds (by omega) (by omega) (by omega) hsk (by intro p hp; cases hp) hsd
              have hT : decTail false j r0 = if !(Nd.good ⟨false, D.ks, [], D2.ds⟩) then none else some ⟨false, D.ks, [], D2.ds⟩ := by
                unfold decTail
                simp only [Bool.false_eq_true, if_false]
                rw [← hD.out, ← hD2.out, hvs0, hbad2, Bool.false_or]
              obtain ⟨nd, hnd⟩ : ∃ nd : Nd, nd = ⟨false, D.ks, [], D2.ds⟩ := ⟨_, rfl⟩
              have hndl : nd.leaf = false := by rw [hnd]
              rw [← hnd] at hNd hT
              have HT := Lib.hid hT
              have HNd := Lib.hid hNd
              have Hl := Lib.hid hndl
              have hres := hX2.rd.2
              have hxe := hX2.ext
              have HN := Lib.hid hX2.nod
              clear hks hds hsk hsd hvs0 hT hNd hnd hndl hX2 hX0 hD hD2 c0
              obtain ⟨c0, c1', c2', c3'⟩ := node_cells HN.out
              have hgood := fun w' h => refGood_calls_l nd false Hl.out A1 none A3 j 0 (j + 1) c1 0 c3 w' h
              cases hg : nd.good with
              | false =>
                rw [hg] at HT hgood
                go_wp2_with (first
                  | (go_at_call 28; ((with_reducible refine hgd.mono ?_); rintro e w' ⟨rfl, rfl⟩))
                  | (go_at_call 11; ((with_reducible refine (hgood _ HNd.out).mono ?_); rintro e w4 ⟨rfl, hx4⟩; have hres4 := hres.ext hx4))
                  | (refine wpList_store_blk rfl 25 (.tmp 2) (.tmp 85) rfl rfl g2 ndZ rfl rfl _ _ hres4 rfl (by kernel_rfl) (by simp [Value.oneCell']) ?_; intro w5 hb5 hg5))
                refine bodyPost_ret (results_row_tmp (P := Try.prog) (fn := Try.f16) rfl _ _ g2 25 ndZ _ rfl hb5 Try.underlying25 rfl (by kernel_rfl)) rfl ?_
                exact rdecPost_none ((hxe.trans hx4).grown_ hg5 (by intro k hk; cases hk; exact hl2w)) HT.out
              | true =>
                rw [hg] at HT hgood
                go_wp2_with (first
                  | (go_at_call 28; ((with_reducible refine hgd.mono ?_); rintro e w' ⟨rfl, rfl⟩))
                  | (go_at_call 11; ((with_reducible refine (hgood _ HNd.out).mono ?_); rintro e w4 ⟨rfl, hx4⟩; have hres4 := hres.ext hx4; clear c0 c1' c2' c3'; obtain ⟨c0, c1', c2', c3'⟩ := node_cells (HN.out.ext hx4)))
                  | (refine wpList_store_blk rfl 25 (.tmp 2) (.tmp 86) rfl rfl g2 #[.bool false, .slice A1 j c1, .slice none 0 0, .slice A3 (j + 1) c3] rfl rfl _ _ hres4 rfl (by kernel_rfl) (by simp [Value.oneCell']) ?_; intro w5 hb5 hg5))
                refine bodyPost_ret (results_row_tmp (P := Try.prog) (fn := Try.f16) rfl _ _ g2 25 #[.bool false, .slice A1 j c1, .slice none 0 0, .slice A3 (j + 1) c3] _ rfl hb5 Try.underlying25 rfl (by kernel_rfl)) rfl ?_
                exact rdecPost_some (hxe.trans hx4) hg5 hl2w hl2B Hl.out HT.out (HNd.out.ext hx4) hf1 hf2 hf3

set_option maxRecDepth 50000 in
set_option maxHeartbeats 4000000 in
theorem rdecode_far (h : Nat) (bs : List UInt8) (r0 : PR) (w : World) (hl : bs.length ≤ 140737488351232) (Hu : Hid ((PR.mk bs false).uint = (h, r0))) (m : Nat) (e2 : (h : Int) / 2 = m) (hm : (512 : Int) < m) (e3 : IntKind.u64.wrap (m : Int) = m) :
    Calls Try.prog 16 #[.string (bstr bs)] w fun e w' => RDecPost none w e w' := by
  go_enter Try.func16, Try.ntmps16
  have hR1 := rread_new (w := w.alloc (.cells #[.bool false, .slice none 0 0, .slice none 0 0, .slice none 0 0] 25)) (g := w.heap.size + 1) (by simp) bs hl
  have hZ0 : Blk ((w.alloc (.cells #[.bool false, .slice none 0 0, .slice none 0 0, .slice none 0 0] 25)).alloc (.cells #[.string (bstr bs), .bool false] 57)) w.heap.size 25 #[.bool false, .slice none 0 0, .slice none 0 0, .slice none 0 0] := (Blk.new w _ _).alloc _
  go_wp2_with (first
    | (go_at_call 27; ((with_reducible refine (rruint_calls (w.heap.size + 1) _ _ hR1).mono ?_); rintro e w2 ⟨rfl, hR2, ht2⟩; rw [Hu.out]; rw [Hu.out] at hR2; have hZ2 := hZ0.grown ht2 (by simp); have hx2 : Ext w w2 := Turns.ext ht2 (((Ext.refl w).alloc _).alloc _) (by omega)))
    | (refine wpList_store_blk rfl 25 (.tmp 2) (.tmp 19) rfl rfl w.heap.size ndZ rfl rfl _ _ hZ2 rfl (by kernel_rfl) (by simp [Value.oneCell']) ?_; intro w5 hb5 hg5))
  refine bodyPost_ret (results_row_tmp (P := Try.prog) (fn := Try.f16) rfl _ _ w.heap.size 25 ndZ _ rfl hb5 Try.underlying25 rfl (by kernel_rfl)) rfl ?_
  exact rdecPost_none (hx2.grown_ hg5 (by intro k hk; cases hk; exact Nat.le_refl _)) rfl
/-- The reference's Decode answers the same. -/
theorem rdecode_calls (bs : List UInt8) (w : World) (hl : bs.length ≤ 140737488351232) :
    Calls Try.prog 16 #[.string (bstr bs)] w fun e w' => RDecPost (dec bs) w e w' := by
  obtain ⟨h, r0, hu⟩ : ∃ h r0, (PR.mk bs false).uint = (h, r0) := ⟨_, _, rfl⟩
  have hlt := (PR.mk bs false).uint_lt
  have hrest := uint_rest (PR.mk bs false)
  have hok : r0.Ok := by
    have h1 : (PR.mk bs false).Ok := fun h => by cases h
    have := h1.uint
    rw [hu] at this
    exact this
  rw [hu] at hlt hrest
  have hd : dec bs = if r0.bad || decide (512 < h / 2) then none else decTail (h % 2 == 1) (h / 2) r0 := by
    unfold dec
    rw [hu]
  by_cases hm : 512 < h / 2
  · have : dec bs = none := by rw [hd, decide_eq_true hm, Bool.or_true]; rfl
    rw [this]
    have hlt' : h < 18446744073709551616 := hlt
    exact rdecode_far h bs r0 w hl (Lib.hid hu) (h / 2) (by omega) (by omega) (by rw [IntKind.wrap_u64]; omega)
  · have hd2 : dec bs = decTail (h % 2 == 1) (h / 2) r0 := by
      rw [hd, decide_eq_false hm, Bool.or_false]
      cases hb : r0.bad with
      | false => rfl
      | true => exact (decTail_bad _ hok (Nat.zero_le _) hb).symm
    rw [hd2]
    have hrl : r0.b.length ≤ 140737488351232 := by
      have h2 : r0.b.length ≤ bs.length := hrest
      omega
    by_cases hp : h % 2 = 1
    · rw [beq_iff_eq.2 hp]
      exact rdecode_leaf h (h / 2) bs r0 w hl (Lib.hid hu) (by omega) hok (by omega) (by omega) hrl
    · rw [beq_eq_false_iff_ne.2 hp]
      exact rdecode_inner h (h / 2) bs r0 w hl (Lib.hid hu) (by omega) hok (by omega) (by omega) hrl
end Go.Proofs.Ytmfmpbeempjeoaa
