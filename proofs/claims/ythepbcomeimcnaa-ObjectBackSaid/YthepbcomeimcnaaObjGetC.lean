/- The walk of object.GetCommit. Printed by wip/mkobjgetc.py. -/
import Derived.Test.YthepbcomeimcnaaObjGet
import Derived.Test.YthepbcomeimcnaaRowFacts
namespace Go.Proofs.Ythepbcomeimcnaa
open Go.RowKit
set_option linter.unusedVariables false

abbrev cmZ : Cm := ⟨idNone, [], ByteArray.empty, 0⟩
theorem cmZ_at (w : World) : CmAt w cmZ none 0 0 := ⟨rfl, rfl, Nat.le_refl _, Row.nil _ _ _, by omega, fun p h => (by cases h), by decide, by decide, by decide⟩
theorem cmC_len (c : Cm) (qa : Option Addr) (Q qc : Nat) (h : c.root.length = 33) : (cmC c qa Q qc).length = 36 := by simp [cmC, bv, h]
theorem cmC_cells (c : Cm) (qa : Option Addr) (Q qc : Nat) : ∀ v ∈ (cmC c qa Q qc).toArray.toList, v.oneCell' = true := by
  intro v hv
  rw [List.toList_toArray, cmC] at hv
  rcases List.mem_append.1 hv with h | h
  · exact bv_cells _ v h
  · simp only [List.mem_cons, List.not_mem_nil, or_false] at h
    rcases h with rfl | rfl | rfl <;> rfl
theorem cmC_put (c : Cm) (qa A : Option Addr) (Q qc n d : Nat) (hr : c.root.length = 33) : (cmC c qa Q qc).toArray.setIfInBounds 33 (.slice A n d) = (cmC c A n d).toArray := by
  have hl : (bv c.root).length = 33 := by rw [bv_len, hr]
  rw [List.setIfInBounds_toArray]
  congr 1
  unfold cmC
  rw [List.set_append_right _ _ (by omega), hl]
  rfl
theorem cmC_end (x : List UInt8) (ps qs : List (List UInt8)) (s t : ByteArray) (m k : Int) (A : Option Addr) (n d : Nat) (hr : x.length = 33) : ((cmC ⟨x, ps, s, m⟩ A n d).toArray.setIfInBounds 34 (.string t)).setIfInBounds 35 (.int .i64 k) = (cmC ⟨x, qs, t, k⟩ A n d).toArray := by
  have hl : (bv x).length = 33 := by rw [bv_len, hr]
  rw [List.setIfInBounds_toArray, List.setIfInBounds_toArray]
  congr 1
  show ((bv x ++ ([.slice A n d, .string s, .int .i64 m] : List Value)).set 34 _).set 35 _ = bv x ++ ([.slice A n d, .string t, .int .i64 k] : List Value)
  rw [List.set_append_right _ _ (by omega), hl, List.set_append_right _ _ (by rw [hl]; omega), hl]
  rfl
def CmPost (f : Bool → Value) (d : Option Cm) (w : World) (e : Ending) (w' : World) : Prop :=
  ∃ (qa : Option Addr) (Q qc : Nat), e = .returned (.tuple #[cma (d.getD cmZ) qa Q qc, f d.isSome]) ∧ CmAt w' (d.getD cmZ) qa Q qc ∧ Ext w w'
theorem cmPost_none {f : Bool → Value} {v : Value} (hv : v = f false) {w w' : World} (hx : Ext w w') {d : Option Cm} (hd : d = none) : CmPost f d w (.returned (.tuple #[cma cmZ none 0 0, v])) w' := by
  subst hd hv
  exact ⟨none, 0, 0, rfl, cmZ_at _, hx⟩
theorem CmAt.grown_old {w w' : World} {c : Cm} {qa : Option Addr} {Q qc : Nat} (h : CmAt w c qa Q qc) {row : Option Nat} (hg : w.grownBy w' row) (h1 : ∀ x, qa = some x → some x.block ≠ row) : CmAt w' c qa Q qc := by
  refine ⟨h.hr, h.hq, h.lq, fun i cs hi => ?_, h.bq, h.sq, h.sn, h.n0, h.n1⟩
  obtain ⟨hl, x, hx, hc⟩ := h.cq i cs hi
  exact ⟨hl, x, hx, fun j v hv => hg.cell (hc j v hv) (by rw [block_add, block_add]; exact h1 x hx)⟩
theorem cmPost_some {f : Bool → Value} {v : Value} (hv : v = f true) {w u w5 : World} {d : Option Cm} {c : Cm} {B g2 : Nat} {A1 : Option Addr} {Q c1 : Nat} (hx : Ext w u) (hg : u.grownBy w5 (some g2)) (h2w : w.heap.size ≤ g2) (h2B : g2 < B) (hd : d = some c)
    (hN : CmAt u c A1 Q c1) (hf1 : ∀ x, A1 = some x → B ≤ x.block) :
    CmPost f d w (.returned (.tuple #[cma c A1 Q c1, v])) w5 := by
  subst hd hv
  have hne : ∀ x, A1 = some x → some x.block ≠ some g2 := fun x hx e => by
    have := hf1 x hx
    cases e
    omega
  exact ⟨A1, Q, c1, rfl, hN.grown_old hg hne, hx.grown_ hg (by intro k hk; cases hk; exact h2w)⟩
theorem getc_stays {B gR g2 : Nat} {r : PR} (h1 : gR < B) (h2 : g2 < B) : Stays B (fun u => Rdr u gR r ∧ Blk u g2 31 (cmC cmZ none 0 0).toArray) := by
  intro w w' row h hg hr
  exact ⟨h.1.grown hg (fun k hk => Nat.lt_of_lt_of_le h1 (hr k hk)), h.2.grown hg (fun e => by have := hr g2 e.symm; omega)⟩
theorem getc_after {gR gN g2 : Nat} {r : PR} {u : World} (h : Rdr u gR r ∧ Blk u g2 31 (cmC cmZ none 0 0).toArray) (h1 : gR < gN) (h2 : g2 ≠ gN) (i : Nat) (v : Value) : Rdr (u.setCell ⟨gN, i, none⟩ v) gR r ∧ Blk (u.setCell ⟨gN, i, none⟩ v) g2 31 (cmC cmZ none 0 0).toArray :=
  ⟨h.1.grown (grown_set u gN i v) (fun k hk => by cases hk; exact h1), h.2.far (p := ⟨gN, i, none⟩) h2 v⟩
/-- The commit that the row makes. -/
theorem getc_fin (c : Cm) {w0 u : World} {B gN : Nat} {RP : World → Prop} {A1 : Option Addr} {Q c1 : Nat} {nc : Array Value}
    (hX : OW w0 B RP gN 31 nc [⟨28, 33, Q, (c.parents.map bv).flatten, .slice A1 Q c1⟩] u) (hr : c.root.length = 33)
    (hq : c.parents.length = Q) (bq : Q ≤ 140737488351232) (sq : ∀ p ∈ c.parents, p.length = 33) (sn : c.note.size ≤ 140737488351232) (n0 : -9223372036854775808 ≤ c.num) (n1 : c.num ≤ 9223372036854775807) :
    CmAt u c A1 Q c1 := by
  have o1 := hX.own 0 _ rfl
  obtain ⟨a1, d1, e1, l1, _, k1⟩ := own_form o1 (by show 0 < 33; decide)
  cases e1
  exact ⟨hr, hq, l1, Cells.row k1 (fun cs hcs => by obtain ⟨p, hp, rfl⟩ := List.mem_map.1 hcs; rw [bv_len]; exact sq p hp) (by decide), bq, sq, sn, n0, n1⟩
/-- Where the commit is begun. -/
theorem getc_start {w w2 w3 w4 : World} {gR : Nat} {r0 : PR} {nc : Array Value} (hgR : (w.alloc (.cells (cmC cmZ none 0 0).toArray 31)).heap.size ≤ gR) (hgw : gR < w2.heap.size) (hx2 : Ext w w2) (hb2 : Blk w2 w.heap.size 31 (cmC cmZ none 0 0).toArray) (hR3 : Rdr w3 gR r0) (ht3 : Turns w2 w3 gR) (hx34 : Ext w3 w4) (hN : Blk w4 w3.heap.size 31 nc) :
    OW w w4.heap.size (fun u => Rdr u gR r0 ∧ Blk u w.heap.size 31 (cmC cmZ none 0 0).toArray) w3.heap.size 31 nc [⟨28, 33, 0, [], .slice none 0 0⟩] w4 ∧ w.heap.size < gR ∧ gR < w3.heap.size ∧ w3.heap.size < w4.heap.size := by
  have hg : w.heap.size < gR := by simp at hgR; omega
  have hs3 := ht3.size
  have hb4 : Blk w4 w.heap.size 31 (cmC cmZ none 0 0).toArray := (hb2.grown ht3 (by intro e; cases e; omega)).ext hx34
  refine ⟨⟨(Turns.ext ht3 hx2 (Nat.le_of_lt hg)).trans hx34, ⟨hR3.ext hx34, hb4⟩, hN, ?_, ?_, Nat.le_refl _⟩, hg, by omega, hN.lt⟩
  · intro i r hi
    match i, hi with
    | 0, hi => cases hi; exact World.ownsRow_nil _ _ _ _
    | n + 1, hi => cases hi
  · intro i j r s _ hi _ k hk
    match i, hi with
    | 0, hi => cases hi; cases hk
    | n + 1, hi => cases hi

set_option maxRecDepth 50000 in
set_option maxHeartbeats 4000000 in
theorem getCommit_few (A : Option Addr) (n c : Nat) (bs : List UInt8) (w : World) (hb : Cells w A (bv bs)) (hn : Hid (bs.length = n)) (hl : n ≤ 140737488351232) (hf : n < 2) :
    Calls Try.prog 23 #[.slice A n c] w fun e w' => CmPost fErr none w e w' := by
  have htk := fun g w' h' => rtake_calls g ⟨bs, false⟩ 2 w' h'
  rw [take_few (by rw [hn.out]; exact hf)] at htk
  go_enter Try.func23, Try.ntmps23
  go_wp2_with (first
    | (go_at_call 33; ((with_reducible refine (read_calls A n c bs _ (hb.ext ((Ext.refl _).alloc _)) hn.out hl).mono ?_); rintro e w1 ⟨gR, rfl, hgR, hR1, hx1⟩))
    | (go_at_call 34; ((with_reducible refine (htk gR _ hR1).mono ?_); rintro e w2 ⟨rfl, hR2, ht2⟩; have hgg : w.heap.size < gR := (by simp at hgR; omega); have hb2 : Blk w2 w.heap.size 31 (cmC cmZ none 0 0).toArray := ((Blk.new w _ _).ext hx1).grown ht2 (by intro e; cases e; omega)))
    | (go_at_call 35; (have hgd := rgood_calls gR _ w2 hR2; (with_reducible refine hgd.mono ?_); rintro e w' ⟨rfl, rfl⟩))
    | (refine wpList_store_blk rfl 31 (.tmp 2) (.tmp 24) rfl rfl w.heap.size (cmC cmZ none 0 0).toArray rfl rfl _ _ hb2 rfl (by rw [List.size_toArray, cmC_len _ _ _ _ idNone_len]; kernel_rfl) (cmC_cells _ _ _ _) ?_; intro w5 hb5 hg5))
  refine bodyPost_ret (results_row_tmp (P := Try.prog) (fn := Try.f23) rfl _ _ w.heap.size 31 (cmC cmZ none 0 0).toArray _ rfl hb5 Try.underlying31 rfl (by rw [List.size_toArray, cmC_len _ _ _ _ idNone_len]; kernel_rfl)) rfl ?_
  exact cmPost_none rfl ((Turns.ext ht2 (((Ext.refl w).alloc _).trans hx1) (Nat.le_of_lt hgg)).grown_ hg5 (by intro k hk; cases hk; exact Nat.le_refl _)) rfl

set_option maxRecDepth 50000 in
set_option maxHeartbeats 4000000 in
theorem getCommit_head (A : Option Addr) (n c : Nat) (h n1 : UInt8) (b bs : List UInt8) (w : World) (hbs : Hid (bs = h :: n1 :: b)) (hb : Cells w A (bv bs)) (hn : Hid (bs.length = n)) (hl : n ≤ 140737488351232) (hf : ¬ (h = 3 ∧ n1.toNat ≤ 2)) :
    Calls Try.prog 23 #[.slice A n c] w fun e w' => CmPost fErr none w e w' := by
  have htk := fun g w' h' => rtake_calls g ⟨bs, false⟩ 2 w' h'
  rw [hbs.out, take_two] at htk
  rw [← hbs.out] at htk
  have hgd0 := fun g w' h' => rgood_calls g ⟨b, false⟩ w' h'
  have hsz : (bstr [h, n1]).size = 2 := bstr_size _
  have hget0 : ∀ h' : 0 < (bstr [h, n1]).size, (bstr [h, n1])[0]'h' = h := fun h' => bstr_get (bs := [h, n1]) (j := 0) (by show 0 < 2; decide) h'
  have hget1 : ∀ h' : 1 < (bstr [h, n1]).size, (bstr [h, n1])[1]'h' = n1 := fun h' => bstr_get (bs := [h, n1]) (j := 1) (by show 1 < 2; decide) h'
  by_cases h3 : (h.toNat : Int) = 3
  · have hgt : (2 : Int) < (n1.toNat : Int) := by
      have : ¬ n1.toNat ≤ 2 := fun h2 => hf ⟨UInt8.toNat_inj.1 (by show h.toNat = 3; omega), h2⟩
      omega
    have hne3 : (((h.toNat : Int) != 3) : Bool) = false := by rw [h3]; rfl
    clear hf h3
    go_enter Try.func23, Try.ntmps23
    go_wp2_with (first
      | (go_at_call 33; ((with_reducible refine (read_calls A n c bs _ (hb.ext ((Ext.refl _).alloc _)) hn.out hl).mono ?_); rintro e w1 ⟨gR, rfl, hgR, hR1, hx1⟩))
      | (go_at_call 34; ((with_reducible refine (htk gR _ hR1).mono ?_); rintro e w2 ⟨rfl, hR2, ht2⟩; have hgg : w.heap.size < gR := (by simp at hgR; omega); have hb2 : Blk w2 w.heap.size 31 (cmC cmZ none 0 0).toArray := ((Blk.new w _ _).ext hx1).grown ht2 (by intro e; cases e; omega)))
      | (go_at_call 35; (with_reducible refine (hgd0 gR _ hR2).mono ?_); rintro e w' ⟨rfl, rfl⟩)
      | (refine wpList_store_blk rfl 31 (.tmp 2) (.tmp 24) rfl rfl w.heap.size (cmC cmZ none 0 0).toArray rfl rfl _ _ hb2 rfl (by rw [List.size_toArray, cmC_len _ _ _ _ idNone_len]; kernel_rfl) (cmC_cells _ _ _ _) ?_; intro w5 hb5 hg5))
    refine bodyPost_ret (results_row_tmp (P := Try.prog) (fn := Try.f23) rfl _ _ w.heap.size 31 (cmC cmZ none 0 0).toArray _ rfl hb5 Try.underlying31 rfl (by rw [List.size_toArray, cmC_len _ _ _ _ idNone_len]; kernel_rfl)) rfl ?_
    exact cmPost_none rfl ((Turns.ext ht2 (((Ext.refl w).alloc _).trans hx1) (Nat.le_of_lt hgg)).grown_ hg5 (by intro k hk; cases hk; exact Nat.le_refl _)) rfl
  · have hne3 : (((h.toNat : Int) != 3) : Bool) = true := bne_iff_ne.2 h3
    clear hf
    go_enter Try.func23, Try.ntmps23
    go_wp2_with (first
      | (go_at_call 33; ((with_reducible refine (read_calls A n c bs _ (hb.ext ((Ext.refl _).alloc _)) hn.out hl).mono ?_); rintro e w1 ⟨gR, rfl, hgR, hR1, hx1⟩))
      | (go_at_call 34; ((with_reducible refine (htk gR _ hR1).mono ?_); rintro e w2 ⟨rfl, hR2, ht2⟩; have hgg : w.heap.size < gR := (by simp at hgR; omega); have hb2 : Blk w2 w.heap.size 31 (cmC cmZ none 0 0).toArray := ((Blk.new w _ _).ext hx1).grown ht2 (by intro e; cases e; omega)))
      | (go_at_call 35; (with_reducible refine (hgd0 gR _ hR2).mono ?_); rintro e w' ⟨rfl, rfl⟩)
      | (refine wpList_store_blk rfl 31 (.tmp 2) (.tmp 24) rfl rfl w.heap.size (cmC cmZ none 0 0).toArray rfl rfl _ _ hb2 rfl (by rw [List.size_toArray, cmC_len _ _ _ _ idNone_len]; kernel_rfl) (cmC_cells _ _ _ _) ?_; intro w5 hb5 hg5))
    refine bodyPost_ret (results_row_tmp (P := Try.prog) (fn := Try.f23) rfl _ _ w.heap.size 31 (cmC cmZ none 0 0).toArray _ rfl hb5 Try.underlying31 rfl (by rw [List.size_toArray, cmC_len _ _ _ _ idNone_len]; kernel_rfl)) rfl ?_
    exact cmPost_none rfl ((Turns.ext ht2 (((Ext.refl w).alloc _).trans hx1) (Nat.le_of_lt hgg)).grown_ hg5 (by intro k hk; cases hk; exact Nat.le_refl _)) rfl

set_option maxRecDepth 50000 in
set_option maxHeartbeats 16000000 in
theorem getCommit_main (A : Option Addr) (n c : Nat) (n1 : UInt8) (b bs : List UInt8) (w : World) (hbs : Hid (bs = 3 :: n1 :: b)) (hb : Cells w A (bv bs)) (hn : Hid (bs.length = n)) (hl : n ≤ 140737488351232) (cnt : Nat) (hcnt : n1.toNat = cnt) (hc2 : cnt ≤ 2) :
    Calls Try.prog 23 #[.slice A n c] w fun e w' => CmPost fErr (decCB n1 b) w e w' := by
  have hr0 : (PR.mk b false).Ok := fun h => by cases h
  have hbl : b.length ≤ 140737488351232 := by have := hn.out; rw [hbs.out] at this; simp only [List.length_cons] at this; omega
  have hng : ¬ (2 : Int) < (cnt : Int) := by omega
  have htk := fun g w' h' => rtake_calls g ⟨bs, false⟩ 2 w' h'
  rw [hbs.out, take_two] at htk
  rw [← hbs.out] at htk
  have hgd0 := fun g w' h' => rgood_calls g ⟨b, false⟩ w' h'
  have hid0 := fun g w' h' => oid_calls g ⟨b, false⟩ w' h' hr0
  have hrest := pid_rest ⟨b, false⟩
  have hpok := hr0.pid
  have hx33 := pid_len ⟨b, false⟩
  have hdec : decCB n1 b = if (!(cmR cnt b).bad && (cmR cnt b).b.length == 0) && (cmOf cnt b).good then some (cmOf cnt b) else none := by
    unfold decCB
    rw [hcnt]
  unfold cmOf cmR cmSt at hdec
  obtain ⟨x0, r0, hpe⟩ : ∃ x r, pid ⟨b, false⟩ = (x, r) := ⟨_, _, rfl⟩
  rw [hpe] at hid0 hdec hrest hpok hx33
  simp only at hrest hdec
  have hbl0 : r0.b.length ≤ 140737488351232 := by omega
  have HB : Hid r0.Ok := Lib.hid hpok
  have HX : Hid (x0.length = 33) := Lib.hid hx33
  have HD := Lib.hid hdec
  clear hpe hdec hrest hpok hx33 hbl
  generalize hdd : decCB n1 b = dd at HD ⊢
  clear hdd
  have hxs : ∀ A n d, (cmC ⟨x0, [], ByteArray.empty, 0⟩ A n d).length = 36 := fun A n d => cmC_len _ _ _ _ HX.out
  have hsz : (bstr [3, n1]).size = 2 := bstr_size _
  have hget0 : ∀ h' : 0 < (bstr [3, n1]).size, (bstr [3, n1])[0]'h' = 3 := fun h' => bstr_get (bs := [3, n1]) (j := 0) (by show 0 < 2; decide) h'
  have hget1 : ∀ h' : 1 < (bstr [3, n1]).size, (bstr [3, n1])[1]'h' = n1 := fun h' => bstr_get (bs := [3, n1]) (j := 1) (by show 1 < 2; decide) h'
  unfold idv at hid0
  go_enter Try.func23, Try.ntmps23
  go_upto_region 7 with (first
    | (go_at_call 33; ((with_reducible refine (read_calls A n c bs _ (hb.ext ((Ext.refl _).alloc _)) hn.out hl).mono ?_); rintro e w1 ⟨gR, rfl, hgR, hR1, hx1⟩))
    | (go_at_call 34; ((with_reducible refine (htk gR _ hR1).mono ?_); rintro e w2 ⟨rfl, hR2, ht2⟩; have hgg : w.heap.size < gR := (by simp at hgR; omega); have hb2 : Blk w2 w.heap.size 31 (cmC cmZ none 0 0).toArray := ((Blk.new w _ _).ext hx1).grown ht2 (by intro e; cases e; omega)))
    | (go_at_call 35; (with_reducible refine (hgd0 gR _ hR2).mono ?_); rintro e w' ⟨rfl, rfl⟩)
    | (go_at_call 37; (with_reducible refine (hid0 gR _ hR2).mono ?_); rintro e w3 ⟨rfl, hR3, ht3⟩)
    | (refine wpList_plain rfl fun _ hK => wp_val (exec_build rfl (by rw [arr1]; rfl)) (build_cm1 _ x0 HX.out) (hK _ _ ?_))
    | (refine wpList_store_blk rfl 31 (.tmp 6) (.tmp 27) rfl rfl w3.heap.size (cmC ⟨x0, [], ByteArray.empty, 0⟩ none 0 0).toArray rfl rfl _ _ (Blk.new_at rfl _ _) (by rw [List.size_toArray, hxs]; rfl) (by kernel_rfl) (cmC_cells _ _ _ _) ?_; intro w4 hb4 hg4; have hx34 : Ext w3 w4 := ((Ext.refl _).alloc _).grown_ hg4 (by simp); obtain ⟨hS, hl2R, hlRN', hlNB'⟩ := getc_start hgR (by obtain ⟨_, _, hq, _⟩ := hR2; exact hq.lt) (Turns.ext ht2 (((Ext.refl w).alloc _).trans hx1) (Nat.le_of_lt hgg)) hb2 hR3 ht3 hx34 hb4))
  obtain ⟨B, hB⟩ : ∃ B, B = w4.heap.size := ⟨_, rfl⟩
  obtain ⟨gN, hgN⟩ : ∃ g, g = w3.heap.size := ⟨_, rfl⟩
  obtain ⟨g2, hg2⟩ : ∃ g, g = w.heap.size := ⟨_, rfl⟩
  have hl0B : w.heap.size ≤ B := by omega
  have hl0N : w.heap.size ≤ gN := by omega
  have hlRN : gR < gN := by omega
  have hlNB : gN < B := by omega
  have hlRB : gR < B := by omega
  have hl2B : g2 < B := by omega
  have hl2g : g2 < gR := by omega
  have hl2w : w.heap.size ≤ g2 := by omega
  have hl0R : w.heap.size ≤ gR := by omega
  rw [← hB, ← hgN, ← hg2] at hS
  rw [← hgN, ← hg2]
  clear hB hgN hg2 hlRN' hlNB' hl2R hR3 hR2 hR1 ht2 ht3 hx1 hgR htk hgd0 hid0 hb2 hgg hx34 hb4 hg4
  go_loopg [30] cnt (fun gk i wr => ∃ (j : Nat) (D : ISt) (A1 : Option Addr) (c1 : Nat), i = .int .u8 j ∧ j + gk = cnt ∧ Hid (D = isteps r0 j) ∧ OW w B (fun u => Rdr u gR D.r ∧ Blk u g2 31 (cmC cmZ none 0 0).toArray) gN 31 (cmC ⟨x0, [], ByteArray.empty, 0⟩ A1 j c1).toArray [⟨28, 33, j, (D.ids.map bv).flatten, .slice A1 j c1⟩] wr)
  case atStart => exact ⟨0, isteps r0 0, none, 0, rfl, by omega, Lib.hid rfl, hS⟩
  case round =>
    obtain ⟨j, D, A1, c1, rfl, hjk, hD, hX0⟩ := hrel
    have hDok := Lib.hid (show D.r.Ok by rw [hD.out]; exact isteps_ok HB.out j)
    by_cases hlt : j < cnt
    · obtain ⟨gk', rfl⟩ : ∃ k, gk = k + 1 := ⟨gk - 1, by omega⟩
      go_upto_region 8 with (fail)
      refine wp_region_opsC (CInv [32, 33, 34, 35, 36, 37, 38] _ [(0, 32, .pointer (some ⟨gN, 33, none⟩)), (1, 33, .slice A1 j c1), (2, 34, .pointer (some ⟨gR, 0, none⟩)), (6, 38, .pointer (some ⟨gN, 33, none⟩))] [(3, some 35), (4, some 36), (5, some 37), (7, none)] (PushW (OW w B (fun u => Rdr u gR D.r ∧ Blk u g2 31 (cmC cmZ none 0 0).toArray) gN 31 ((cmC ⟨x0, [], ByteArray.empty, 0⟩ A1 j c1).toArray) [⟨28, 33, j, (D.ids.map bv).flatten, .slice A1 j c1⟩]) (OW w B (fun u => Rdr u gR (pid D.r).2 ∧ Blk u g2 31 (cmC cmZ none 0 0).toArray) gN 31 ((cmC ⟨x0, [], ByteArray.empty, 0⟩ A1 j c1).toArray) [⟨28, 33, j, (D.ids.map bv).flatten, .slice A1 j c1⟩]) ((idv (pid D.r).1)) (bv (pid D.r).1) (fun v => OW w B (fun u => Rdr u gR (pid D.r).2 ∧ Blk u g2 31 (cmC cmZ none 0 0).toArray) gN 31 ((cmC ⟨x0, [], ByteArray.empty, 0⟩ A1 j c1).toArray) [⟨28, 33, j + 1, (D.ids.map bv).flatten ++ (bv (pid D.r).1), v⟩]) (fun v => OW w B (fun u => Rdr u gR (pid D.r).2 ∧ Blk u g2 31 (cmC cmZ none 0 0).toArray) gN 31 (((cmC ⟨x0, [], ByteArray.empty, 0⟩ A1 j c1).toArray).setIfInBounds 33 v) [⟨28, 33, j + 1, (D.ids.map bv).flatten ++ (bv (pid D.r).1), v⟩]))) (by kernel_rfl) (by kernel_rfl) (CInv.start (OW.more hX0 (getc_stays hlRB hl2B) ((Ext.refl _).drew))) ?_ ?_
      · refine ⟨?o0, ?o1, ?o2, ?o3, ?o4, ?o5, ?o6, ?o7, trivial⟩
        case o0 =>
          intro f a u h hfi hp hq hcl
          have q6 : a.tmps[6]?.getD undef = .pointer (some ⟨gN, 0, none⟩) := h.agree.att (by decide)
          exact h.yield rfl rfl 32 rfl (by change 32 < 56; decide) rfl _ rfl (by go_simp)
        case o1 =>
          intro f a u h hfi hp hq hcl
          have q32 := h.att 0 rfl (pre_of hp 0 rfl)
          obtain ⟨xs, hx, hl⟩ := h.before 2 rfl (hq 5 _ rfl rfl)
          have hN := PushW.ahead (N := fun u => Blk u gN 31 ((cmC ⟨x0, [], ByteArray.empty, 0⟩ A1 j c1).toArray)) hx (by omega) (fun _ h => h.nod) (fun _ h => h.nod) (fun _ _ h => h.nod)
          have c1 : u.cell? ⟨gN, 33, none⟩ = some (.slice A1 j c1) := (cm_cells hN HX.out).2.1
          clear hN hx
          exact h.yield rfl rfl 33 rfl (by change 33 < 56; decide) rfl _ rfl (by go_simp)
        case o2 =>
          intro f a u h hfi hp hq hcl
          have q4 : a.tmps[4]?.getD undef = .pointer (some ⟨gR, 0, none⟩) := h.agree.att (by decide)
          exact h.yield rfl rfl 34 rfl (by change 34 < 56; decide) rfl _ rfl (by go_simp)
        case o3 =>
          intro f a u h hfi hp hq hcl
          refine h.link hfi rfl rfl 0 _ rfl rfl (fun t ht => by cases ht; change 35 < 56; decide) rfl (fun k c d' hk hc => by omega) ?_
          intro xs hl hX hv
          obtain rfl : xs = [] := List.eq_nil_of_length_eq_zero hl
          have hX : OW w B (fun u => Rdr u gR D.r ∧ Blk u g2 31 (cmC cmZ none 0 0).toArray) gN 31 ((cmC ⟨x0, [], ByteArray.empty, 0⟩ A1 j c1).toArray) [⟨28, 33, j, (D.ids.map bv).flatten, .slice A1 j c1⟩] u := hX
          refine wp_call 37 #[.tmp 34] #[68] _ rfl (by kernel_rfl) (by rw [arr1, h.at_ 2 rfl (pre_of hp 2 rfl)]) (Calls.mono (oid_calls gR D.r _ hX.rd.1 hDok.out) ?_)
          rintro e u' ⟨rfl, hr1, ht1⟩
          exact ⟨_, rfl, _, rfl, rfl, hX.turn ht1 ⟨hr1, hX.rd.2.grown ht1 (by intro e; cases e; omega)⟩ (fun k hk => by cases hk; exact ⟨by omega, by omega, by omega⟩)⟩
        case o4 =>
          intro f a u h hfi hp hq hcl
          refine h.link hfi rfl rfl 1 _ rfl rfl (fun t ht => by cases ht; change 36 < 56; decide) rfl (fun k c d' hk hc => by (have hk0 : k = 0 := (by omega)); subst hk0; cases hc; exact (pre_of hp 3 rfl)) ?_
          intro xs hl hX hv
          obtain ⟨s, rfl⟩ := len1 hl
          obtain ⟨hs, hX⟩ : s = _ ∧ OW w B (fun u => Rdr u gR (pid D.r).2 ∧ Blk u g2 31 (cmC cmZ none 0 0).toArray) gN 31 ((cmC ⟨x0, [], ByteArray.empty, 0⟩ A1 j c1).toArray) [⟨28, 33, j, (D.ids.map bv).flatten, .slice A1 j c1⟩] u := hX
          have e35 := (hv 0 _ _ rfl (by decide)).trans hs
          refine wp_val (exec_buildSlice rfl (by rw [arr1]; simp only [show a.eval (.tmp 35) = _ from e35]; rfl)) (lit1_id _ _ (pid_len _)) ?_
          exact ⟨_, rfl, hs, ⟨_, rfl, Cells.lit rfl (bv (pid D.r).1) _ _⟩, hX.more (getc_stays hlRB hl2B) ((Ext.refl _).alloc _)⟩
        case o5 =>
          intro f a u h hfi hp hq hcl
          refine h.link hfi rfl rfl 2 _ rfl rfl (fun t ht => by cases ht; change 37 < 56; decide) rfl (fun k c d' hk hc => by (have hk0 : k = 1 := (by omega)); subst hk0; cases hc; exact (pre_of hp 4 rfl)) ?_
          intro xs hl hX hv
          obtain ⟨s, l, rfl⟩ := len2 hl
          obtain ⟨hs, ⟨g, rfl, hc⟩, hX⟩ : s = _ ∧ (∃ g, l = _ ∧ _) ∧ OW w B (fun u => Rdr u gR (pid D.r).2 ∧ Blk u g2 31 (cmC cmZ none 0 0).toArray) gN 31 ((cmC ⟨x0, [], ByteArray.empty, 0⟩ A1 j c1).toArray) [⟨28, 33, j, (D.ids.map bv).flatten, .slice A1 j c1⟩] u := hX
          have el := hv 1 _ _ rfl (by decide)
          refine wp_append u (.tmp 33) (.tmp 36) 29 rfl B 28 (.agg (bv idNone).toArray) 33 33 Try.underlying29 (by kernel_rfl) rfl (by decide) _ j _ (h.at_ 1 rfl (pre_of hp 1 rfl)) (hX.own 0 _ rfl) (some ⟨g, 0, none⟩) 1 1 (bv (pid D.r).1) el (by rw [bv_len, pid_len]) hc (bv_cells _) (by simp only [maxLen]; omega) (by omega) hX.hB ?_
          intro v' u' ho hg hf
          exact ⟨_, rfl, hs, hX.app (getc_stays hlRB hl2B) hlNB hl0B (i := 0) rfl ho hg hf⟩
        case o6 =>
          intro f a u h hfi hp hq hcl
          have q6 : a.tmps[6]?.getD undef = .pointer (some ⟨gN, 0, none⟩) := h.agree.att (by decide)
          exact h.yield rfl rfl 38 rfl (by change 38 < 56; decide) rfl _ rfl (by go_simp)
        case o7 =>
          intro f a u h hfi hp hq hcl
          refine h.link hfi rfl rfl 3 _ rfl rfl (fun t ht => by cases ht) rfl (fun k c d' hk hc => by (have hk0 : k = 2 := (by omega)); subst hk0; cases hc; exact (pre_of hp 5 rfl)) ?_
          intro xs hl hX hv
          obtain ⟨s, l, v, rfl⟩ := len3 hl
          obtain ⟨hs, hX⟩ : s = _ ∧ OW w B (fun u => Rdr u gR (pid D.r).2 ∧ Blk u g2 31 (cmC cmZ none 0 0).toArray) gN 31 ((cmC ⟨x0, [], ByteArray.empty, 0⟩ A1 j c1).toArray) [⟨28, 33, j + 1, (D.ids.map bv).flatten ++ (bv (pid D.r).1), v⟩] u := hX
          have ev := hv 2 _ _ rfl (by decide)
          obtain ⟨Av, cv, hvv, _, _, _⟩ := own_form (hX.own 0 _ rfl) (by show 0 < 33; decide)
          have hvv : v = .slice Av (j + 1) cv := hvv
          subst hvv
          have c1 : u.cell? ⟨gN, 33, none⟩ = some (.slice A1 j c1) := (cm_cells hX.nod HX.out).2.1
          have f1 := hX.nod.frozen 33
          refine wp_store_cell 29 (.tmp 38) (.tmp 37) rfl rfl (h.at_ 3 rfl (pre_of hp 6 rfl)) ev (st_ids _ _ _ _ _ _ c1 f1) ?_
          exact ⟨.tuple #[], rfl, hs, hX.sto (grown_set u gN 33 _) (blk_set hX.nod 33 _) (getc_after hX.rd hlRN (by omega) _ _) hlNB hl0N⟩
      · intro f a u h hall hfar
        obtain ⟨xs, hxl, hX, hv⟩ := h.done (by intro c hc; simp only [List.mem_cons, List.not_mem_nil, or_false] at hc; rcases hc with rfl | rfl | rfl | rfl; all_goals exact hall _ (by decide))
        obtain ⟨s, l, v, t, rfl⟩ := len4 hxl
        have hX : OW w B (fun u => Rdr u gR (pid D.r).2 ∧ Blk u g2 31 (cmC cmZ none 0 0).toArray) gN 31 (((cmC ⟨x0, [], ByteArray.empty, 0⟩ A1 j c1).toArray).setIfInBounds 33 v) [⟨28, 33, j + 1, (D.ids.map bv).flatten ++ (bv (pid D.r).1), v⟩] u := hX.2
        have hag := h.agree.out
        simp only [List.foldl_cons, List.foldl_nil, Act.put, List.setIfInBounds_toArray, List.set_cons_zero, List.set_cons_succ] at hag
        generalize a.eval (.tmp 32) = y32 at hag
        generalize a.eval (.tmp 33) = y33 at hag
        generalize a.eval (.tmp 34) = y34 at hag
        generalize a.eval (.tmp 35) = y35 at hag
        generalize a.eval (.tmp 36) = y36 at hag
        generalize a.eval (.tmp 37) = y37 at hag
        generalize a.eval (.tmp 38) = y38 at hag
        clear h hall hfar hxl hv
        subst hag
        obtain ⟨Av1, cv1, hvv, lv, mv, hcv⟩ := own_form (hX.own 0 _ rfl) (by show 0 < 33; decide)
        have hvv : v = .slice Av1 (j + 1) cv1 := hvv
        subst hvv
        clear lv mv hcv
        rw [cmC_put _ _ _ _ _ _ _ HX.out, ids_snoc] at hX
        go_wp2
        go_roundg gk'
        case measure => omega
        case rel => exact ⟨j + 1, ⟨D.ids ++ [(pid D.r).1], (pid D.r).2⟩, Av1, cv1, by go_num, by omega, Lib.hid (by show _ = (⟨(isteps r0 j).ids ++ [(pid (isteps r0 j).r).1], (pid (isteps r0 j).r).2⟩ : ISt); rw [← hD.out]), hX⟩
    · obtain rfl : j = cnt := by omega
      clear hlt hS
      have htx := fun w' h' => rtext_calls gR D.r 32 w' h' (by decide)
      have hin := fun w' h' => rint_calls gR (D.r.text 32).2 w' h'
      have hlen := isteps_len r0 j
      obtain ⟨hsz33, hrb⟩ := isteps_sizes r0 j
      have htr := text_rest' D.r 32
      have hzl := PR.uint_lt (D.r.text 32).2
      rw [← hD.out] at HD hlen hsz33 hrb
      obtain ⟨y, q1, hty⟩ : ∃ y q, D.r.text 32 = (y, q) := ⟨_, _, rfl⟩
      rw [hty] at htx hin HD htr hzl
      simp only at htr hin HD hzl
      obtain ⟨m, q2, hiy⟩ : ∃ m q, q1.int = (m, q) := ⟨_, _, rfl⟩
      have hm : m = zag q1.uint.1 := by have := congrArg Prod.fst hiy; exact this.symm
      have hmb := zag_lo hzl
      rw [← hm] at hmb
      rw [hiy] at hin HD
      simp only at HD
      have hend := fun w' h' => rend_calls gR q2 w' h'
      clear hm hzl hty hiy hD hDok
      go_upto_region 11 with (first
        | (go_at_call 36; ((with_reducible refine (htx _ hX0.rd.1).mono ?_); rintro e wt ⟨rfl, hrt, htt⟩; have hX1 := hX0.turn (RP' := fun u => Rdr u gR q1 ∧ Blk u g2 31 (cmC cmZ none 0 0).toArray) htt ⟨hrt, hX0.rd.2.grown htt (by intro e; cases e; omega)⟩ (fun k hk => by cases hk; exact ⟨by omega, by omega, by omega⟩)))
        | (go_at_call 44; ((with_reducible refine (hin _ hX1.rd.1).mono ?_); rintro e wi ⟨rfl, hri, hti⟩; have hX2 := hX1.turn (RP' := fun u => Rdr u gR q2 ∧ Blk u g2 31 (cmC cmZ none 0 0).toArray) hti ⟨hri, hX1.rd.2.grown hti (by intro e; cases e; omega)⟩ (fun k hk => by cases hk; exact ⟨by omega, by omega, by omega⟩); obtain ⟨_, c33, c34, c35⟩ := cm_cells hX2.nod HX.out; have f34 := hX2.nod.frozen 34; have f35 := hX2.nod.frozen 35)))
      have hX3 := hX2.sto (grown_set wi gN 34 (.string (bstr y))) (blk_set hX2.nod 34 _) (getc_after hX2.rd hlRN (by omega) _ _) hlNB hl0N
      have hX4 := hX3.sto (grown_set _ gN 35 (.int .i64 m)) (blk_set hX3.nod 35 _) (getc_after hX3.rd hlRN (by omega) _ _) hlNB hl0N
      rw [cmC_end x0 [] D.ids ByteArray.empty (bstr y) 0 m A1 j c1 HX.out] at hX4
      obtain ⟨we, hwe⟩ : ∃ we, we = (wi.setCell ⟨gN, 34, none⟩ (.string (bstr y))).setCell ⟨gN, 35, none⟩ (.int .i64 m) := ⟨_, rfl⟩
      rw [← hwe] at hX4 ⊢
      clear hwe hX3 hX2 hX1 hX0 c33 c34 c35 f34 f35 hrt hri htt hti htx hin
      obtain ⟨cc, hcc⟩ : ∃ cc : Cm, cc = ⟨x0, D.ids, bstr y, m⟩ := ⟨_, rfl⟩
      rw [← hcc] at hX4 HD
      have hNd : CmAt we cc A1 j c1 := by
        subst hcc
        exact getc_fin _ hX4 HX.out hlen (by omega) hsz33 (by rw [bstr_size]; omega) hmb.1 hmb.2
      have hf1 := ow_addr hX4 0 rfl rfl
      have hcr : cc.root.length = 33 := by rw [hcc]; exact HX.out
      have Hcr := Lib.hid hcr
      have HNd := Lib.hid hNd
      have HN := Lib.hid hX4.nod
      have hres := hX4.rd.2
      have hxe := hX4.ext
      have hrd := hX4.rd.1
      have HC := Lib.hid (show ∀ i v, (cmC cc A1 j c1)[i]? = some v → we.cell? ((⟨gN, 0, none⟩ : Addr).add i) = some v from fun i v hv => by rw [add_new, HN.out.cell, ← Array.getElem?_toList, List.toList_toArray]; exact hv)
      have hcl : (cmC cc A1 j c1).length = 36 := cmC_len _ _ _ _ hcr
      clear hX4 hNd hcc hcr hlen hsz33 hrb htr hmb
      cases hbad : q2.end_ with
      | false =>
        rw [hbad] at hend
        have hdn : dd = none := by
          rw [HD.out]
          unfold PR.end_ at hbad
          rw [hbad]
          rfl
        go_wp2_with (first
          | (go_at_call 38; ((with_reducible refine (hend _ hrd).mono ?_); rintro e w' ⟨rfl, rfl⟩))
          | (refine wpList_store_blk rfl 31 (.tmp 2) (.tmp 54) rfl rfl g2 (cmC cmZ none 0 0).toArray rfl rfl _ _ hres rfl (by rw [List.size_toArray, cmC_len _ _ _ _ idNone_len]; kernel_rfl) (cmC_cells _ _ _ _) ?_; intro w5 hb5 hg5))
        refine bodyPost_ret (results_row_tmp (P := Try.prog) (fn := Try.f23) rfl _ _ g2 31 (cmC cmZ none 0 0).toArray _ rfl hb5 Try.underlying31 rfl (by rw [List.size_toArray, cmC_len _ _ _ _ idNone_len]; kernel_rfl)) rfl ?_
        exact cmPost_none rfl (hxe.grown_ hg5 (by intro k hk; cases hk; exact hl2w)) hdn
      | true =>
        rw [hbad] at hend
        unfold PR.end_ at hbad
        have hgc := goodCommit_calls cc A1 j c1 we HNd.out
        cases hg : cc.good with
        | false =>
          rw [hg] at hgc
          have hdn : dd = none := by rw [HD.out, hbad, hg]; rfl
          go_wp2_with (first
            | (go_at_call 38; ((with_reducible refine (hend _ hrd).mono ?_); rintro e w' ⟨rfl, rfl⟩))
            | (refine wpList_load_row_g (g := 3) (d' := 49) rfl rfl rfl 31 (.tmp 6) rfl ⟨gN, 0, none⟩ rfl (cmC cc A1 j c1) _ HC.out Try.underlying31 rfl (by rw [cm_info, hcl]) ?_)
            | (refine wp_load_row_ 31 (.tmp 6) rfl ⟨gN, 0, none⟩ rfl (cmC cc A1 j c1) _ HC.out Try.underlying31 rfl (by rw [cm_info, hcl]) ?_)
            | (go_at_call 22; ((with_reducible refine hgc.mono ?_); rintro e w4' ⟨rfl, hx4⟩; have hres4 := hres.ext hx4))
            | (refine wpList_store_blk rfl 31 (.tmp 2) (.tmp 54) rfl rfl g2 (cmC cmZ none 0 0).toArray rfl rfl _ _ hres4 rfl (by rw [List.size_toArray, cmC_len _ _ _ _ idNone_len]; kernel_rfl) (cmC_cells _ _ _ _) ?_; intro w5 hb5 hg5))
          refine bodyPost_ret (results_row_tmp (P := Try.prog) (fn := Try.f23) rfl _ _ g2 31 (cmC cmZ none 0 0).toArray _ rfl hb5 Try.underlying31 rfl (by rw [List.size_toArray, cmC_len _ _ _ _ idNone_len]; kernel_rfl)) rfl ?_
          exact cmPost_none rfl ((hxe.trans hx4).grown_ hg5 (by intro k hk; cases hk; exact hl2w)) hdn
        | true =>
          rw [hg] at hgc
          have hds : dd = some cc := by rw [HD.out, hbad, hg]; rfl
          go_wp2_with (first
            | (go_at_call 38; ((with_reducible refine (hend _ hrd).mono ?_); rintro e w' ⟨rfl, rfl⟩))
            | (refine wpList_load_row_g (g := 3) (d' := 49) rfl rfl rfl 31 (.tmp 6) rfl ⟨gN, 0, none⟩ rfl (cmC cc A1 j c1) _ HC.out Try.underlying31 rfl (by rw [cm_info, hcl]) ?_)
            | (refine wp_load_row_ 31 (.tmp 6) rfl ⟨gN, 0, none⟩ rfl (cmC cc A1 j c1) _ HC.out Try.underlying31 rfl (by rw [cm_info, hcl]) ?_)
            | (go_at_call 22; ((with_reducible refine hgc.mono ?_); rintro e w4' ⟨rfl, hx4⟩; have hres4 := hres.ext hx4))
            | (refine wpList_load_row_ rfl 31 (.tmp 6) rfl ⟨gN, 0, none⟩ rfl (cmC cc A1 j c1) _ (fun i v hv => hx4.cell (HC.out i v hv)) Try.underlying31 rfl (by rw [cm_info, hcl]) ?_)
            | (refine wpList_store_blk rfl 31 (.tmp 2) (.tmp 55) rfl rfl g2 (cmC cc A1 j c1).toArray rfl rfl _ _ hres4 (by rw [List.size_toArray, List.size_toArray, hcl]; rfl) (by rw [List.size_toArray, cmC_len _ _ _ _ idNone_len]; kernel_rfl) (cmC_cells _ _ _ _) ?_; intro w5 hb5 hg5))
          refine bodyPost_ret (results_row_tmp (P := Try.prog) (fn := Try.f23) rfl _ _ g2 31 (cmC cc A1 j c1).toArray _ rfl hb5 Try.underlying31 rfl (by rw [List.size_toArray, hcl]; kernel_rfl)) rfl ?_
          exact cmPost_some rfl (hxe.trans hx4) hg5 hl2w hl2B hds (HNd.out.ext hx4) hf1

/-- GetCommit: the commit of bytes. -/
theorem getCommit_calls (A : Option Addr) (n c : Nat) (bs : List UInt8) (w : World) (hb : Cells w A (bv bs)) (hn : bs.length = n) (hl : n ≤ 140737488351232) :
    Calls Try.prog 23 #[.slice A n c] w fun e w' => CmPost fErr (decC bs) w e w' := by
  match bs, hn, hb with
  | [], hn, hb => exact getCommit_few A n c [] w hb (Lib.hid hn) hl (by rw [← hn]; decide)
  | [x], hn, hb => exact getCommit_few A n c [x] w hb (Lib.hid hn) hl (by rw [← hn]; show 1 < 2; decide)
  | h :: n1 :: b, hn, hb =>
    show Calls _ _ _ _ fun e w' => CmPost fErr (if h = 3 ∧ n1.toNat ≤ 2 then decCB n1 b else none) w e w'
    by_cases h1 : h = 3 ∧ n1.toNat ≤ 2
    · rw [if_pos h1]
      obtain ⟨rfl, h2⟩ := h1
      exact getCommit_main A n c n1 b _ w (Lib.hid rfl) hb (Lib.hid hn) hl n1.toNat rfl h2
    · rw [if_neg h1]
      exact getCommit_head A n c h n1 b _ w (Lib.hid rfl) hb (Lib.hid hn) hl h1
end Go.Proofs.Ythepbcomeimcnaa
