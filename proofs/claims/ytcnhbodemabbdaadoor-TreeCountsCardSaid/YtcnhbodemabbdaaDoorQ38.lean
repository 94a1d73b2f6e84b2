/- A name that stands in bytes: the walks of object.id and of the reference's name. -/
import Derived.Test.YtcnhbodemabbdaaDoorQ33
import Derived.Test.YtcnhbodemabbdaaDoorQ35
import Derived.Test.YtcnhbodemabbdaaDoorQ37
import Derived.Test.YtcnhbodemabbdaaDoorQ15
namespace Go.Proofs.YtcnhbodemabbdaaDoor
open Go.RowKit
set_option linter.unusedVariables false

theorem turns_row {w0 w w' : World} {g : Nat} (T : Turns w0 w g) {row : Option Nat} (h : w.grownBy w' row) (hr : ∀ j, row = some j → w0.heap.size ≤ j) : Turns w0 w' g :=
  ⟨h.os.trans T.os, h.tape.trans T.tape, h.output.trans T.output, Nat.le_trans T.size h.size, fun k hk hne => (h.block k (Nat.lt_of_lt_of_le hk T.size) (fun e => by have := hr k e.symm; omega)).trans (T.block k hk hne)⟩
theorem turns_of {w w' : World} (k : Ext w w') (g : Nat) : Turns w w' g := ⟨k.os, k.tape, k.output, k.size, fun j hj _ => k.block j hj⟩
theorem turns_ext {w0 w w' : World} {g : Nat} (T : Turns w0 w g) (k : Ext w w') : Turns w0 w' g := turns_row T (grown_of_ext k) (fun _ h => by cases h)
theorem take_nil (b : Bool) : PR.take ⟨[], b⟩ 1 = ([], PR.fail) := by
  unfold PR.take
  rw [if_pos]
  refine .inr (.inr ?_)
  show ((0 : Nat) : Int) < 1
  omega
theorem take_neg (r : PR) : PR.take r (-1) = ([], PR.fail) := by
  unfold PR.take
  rw [if_pos]
  exact .inr (.inl (by decide))
theorem take_one (k : UInt8) (b : List UInt8) : PR.take ⟨k :: b, false⟩ 1 = ([k], ⟨b, false⟩) := by
  unfold PR.take
  rw [if_neg (by simp; omega)]
  rfl
theorem take_n (b : List UInt8) (n : Nat) : PR.take ⟨b, false⟩ n = if b.length < n then ([], PR.fail) else (b.take n, ⟨b.drop n, false⟩) := by
  unfold PR.take
  by_cases h : b.length < n
  · rw [if_pos (by simp; omega), if_pos h]
  · rw [if_neg (by simp; omega), if_neg h, Int.toNat_natCast]
/-- The program's way to a name. -/
theorem pid_way (k : UInt8) (b : List UInt8) : (if idCan (k :: (PR.take ⟨b, false⟩ (idN k)).1) then idPad (k :: (PR.take ⟨b, false⟩ (idN k)).1) else idNone) = (pid ⟨k :: b, false⟩).1 ∧
    (if idCan (k :: (PR.take ⟨b, false⟩ (idN k)).1) then (PR.take ⟨b, false⟩ (idN k)).2 else PR.fail) = (pid ⟨k :: b, false⟩).2 := by
  rw [take_n]
  have hk : ∀ l : List UInt8, idKind (k :: l) = k := fun l => rfl
  have hp : pid ⟨k :: b, false⟩ = if idN k = 0 ∨ b.length < idN k then (idNone, PR.fail) else (idPad (k :: b.take (idN k)), ⟨b.drop (idN k), false⟩) := rfl
  by_cases h0 : idN k = 0
  · have hc : ∀ l, idCan (k :: l) = false := by
      intro l
      unfold idCan
      rw [hk, h0]
      rfl
    rw [hp, if_pos (Or.inl h0 : idN k = 0 ∨ b.length < idN k)]
    simp only [hc, Bool.false_eq_true, if_false]
    exact ⟨trivial, trivial⟩
  · by_cases h1 : b.length < idN k
    · have hc : idCan [k] = false := by
        unfold idCan
        have : idKind [k] = k := rfl
        rw [this]
        simp only [List.length_cons, List.length_nil, Nat.zero_add, Bool.and_eq_false_iff, decide_eq_false_iff_not]
        omega
      rw [hp, if_pos (Or.inr h1 : idN k = 0 ∨ b.length < idN k), if_pos h1]
      simp only [hc, Bool.false_eq_true, if_false]
      exact ⟨trivial, trivial⟩
    · have hc : idCan (k :: b.take (idN k)) = true := by
        unfold idCan
        rw [hk, List.length_cons, List.length_take]
        simp only [Bool.and_eq_true, decide_eq_true_eq]
        omega
      rw [hp, if_neg (by omega : ¬ (idN k = 0 ∨ b.length < idN k)), if_neg h1]
      simp only [hc, if_true]
      exact ⟨trivial, trivial⟩
theorem isEmpty_bstr (k : UInt8) (l : List UInt8) : (bstr (k :: l)).toList.isEmpty = false := by
  rw [List.isEmpty_eq_false_iff, ByteArray.toList_eq, bstr_data]
  exact List.cons_ne_nil _ _
theorem bstr_ne (k : UInt8) (l : List UInt8) : ¬ (bstr (k :: l)).toList = [] := by rw [ByteArray.toList_eq, bstr_data]; exact List.cons_ne_nil _ _
theorem bstr_nil_list : (bstr []).toList = [] := by rw [ByteArray.toList_eq, bstr_data]

set_option maxRecDepth 50000 in
set_option maxHeartbeats 4000000 in
theorem oid_calls (g : Nat) (r : PR) (w : World) (h : Rdr w g r) (hok : r.Ok) :
    Calls Tryd.prog 62 #[.pointer (some ⟨g, 0, none⟩)] w fun e w' => e = .returned (idv (pid r).1) ∧ Rdr w' g (pid r).2 ∧ Turns w w' g := by
  have hgw : g < w.heap.size := by obtain ⟨A, c, h1, _⟩ := h; exact h1.lt
  obtain ⟨rb, bad⟩ := r
  cases rb with
  | nil =>
    have e : pid ⟨[], bad⟩ = (idNone, PR.fail) := rfl
    rw [e]
    have htk := fun w' h' => rtake_calls g ⟨[], bad⟩ 1 w' h'
    rw [take_nil] at htk
    have hnil := bstr_nil_list
    clear e
    go_enter Tryd.func62, Tryd.ntmps62
    go_wp2_with (first
      | (go_at_call 60; ((with_reducible refine (htk _ (h.ext ((Ext.refl _).alloc _))).mono ?_); rintro e w1 ⟨rfl, hr1, ht1⟩; have hb1 := ht1.blk (Blk.new w 27 (bv idNone).toArray) (by omega)))
      | (refine wpList_store_blk rfl 27 (.tmp 2) (.tmp 10) rfl rfl w.heap.size (bv idNone).toArray rfl rfl _ _ hb1 rfl (by kernel_rfl) (bv_cells _) ?_; intro w2 hb2 hg2))
    refine bodyPost_ret (results_cell_row (P := Tryd.prog) (fn := Tryd.f62) rfl _ _ _ _ (bv idNone).toArray _ _ rfl hb2 Tryd.underlying27 rfl (by kernel_rfl)) rfl ⟨rfl, hr1.grown hg2 (fun k hk => by cases hk; exact hgw), ?_⟩
    exact turns_row ((turns_of ((Ext.refl _).alloc _) g).trans ht1) hg2 (fun j hj => by cases hj; exact Nat.le_refl _)
  | cons k b =>
    have hbad : bad = false := by
      cases bad with
      | false => rfl
      | true => have := hok rfl; cases this
    subst hbad
    obtain ⟨e1, e2⟩ := pid_way k b
    rw [← e1, ← e2]
    obtain ⟨t, r2, htr⟩ : ∃ t r2, PR.take ⟨b, false⟩ (idN k) = (t, r2) := ⟨_, _, rfl⟩
    rw [htr]
    simp only
    have htl : t.length ≤ 32 := by
      have := idN_le k
      rw [take_n] at htr
      split at htr
      · cases htr; simp
      · cases htr; rw [List.length_take]; omega
    have htk := fun w' h' => rtake_calls g ⟨k :: b, false⟩ 1 w' h'
    rw [take_one] at htk
    have htk2 := fun w' h' => rtake_calls g ⟨b, false⟩ (idN k) w' h'
    rw [htr] at htk2
    have hpar := fun w' => idparse_calls (k :: t) w' (by rw [List.length_cons]; omega)
    have happ : bstr [k] ++ bstr t = bstr (k :: t) := bstr_append [k] t
    have hemp := isEmpty_bstr k []
    have hne := bstr_ne k []
    have hsz1 : (bstr [k]).size = 1 := bstr_size _
    have hszt : (bstr t).size ≤ 32 := by rw [bstr_size]; exact htl
    have hget : ∀ h' : 0 < (bstr [k]).size, (bstr [k])[0]'h' = k := fun h' => bstr_get (bs := [k]) (j := 0) (by show 0 < 1; decide) h'
    have hsz := fun w' => size_calls k w'
    generalize idN k = n at hsz htk2
    obtain ⟨x, hx⟩ : ∃ x, x = (if idCan (k :: t) then idPad (k :: t) else idNone) := ⟨_, rfl⟩
    have hxl : x.length = 33 := by
      rw [hx]
      split
      · exact idPad_len (by rw [List.length_cons]; omega)
      · exact idNone_len
    rw [← hx] at hpar ⊢
    have hxs : (bv x).toArray.size = 33 := by rw [List.size_toArray, bv_len, hxl]
    unfold idv at hpar
    unfold idv
    clear hx e1 e2 htr htl hxl hok
    cases hcan : idCan (k :: t) with
    | true =>
      rw [hcan] at hpar
      clear hcan
      go_enter Tryd.func62, Tryd.ntmps62
      go_wp2_with (first
        | (go_at_call 60; first
          | ((with_reducible refine (htk2 _ hr1).mono ?_); rintro e w2 ⟨rfl, hr2, ht2⟩; have hb2 := ht2.blk hb1 (by omega); have ht02 := ht01.trans ht2)
          | ((with_reducible refine (htk _ (h.ext ((Ext.refl _).alloc _))).mono ?_); rintro e w1 ⟨rfl, hr1, ht1⟩; have hb1 := ht1.blk (Blk.new w 27 (bv idNone).toArray) (by omega); have ht01 := (turns_of ((Ext.refl _).alloc _) g).trans ht1))
        | (go_at_call 34; ((with_reducible refine (hsz _).mono ?_); rintro e w1' ⟨rfl, rfl⟩))
        | (go_at_call 91; ((with_reducible refine (hpar _).mono ?_); rintro e w3 ⟨rfl, hx3⟩; have hb3 := hb2.ext hx3; have ht03 := turns_ext ht02 hx3; have hr3 := hr2.ext hx3; have hs3 := ht03.size))
        | (refine wpList_store_blk rfl 27 (.tmp 4) (.tmp 20) rfl rfl w3.heap.size (bv x).toArray rfl rfl _ _ (Blk.new_at rfl _ _) (by rw [hxs]; rfl) (by kernel_rfl) (bv_cells _) ?_; intro w4 hb4 hg4; have hx4 : Ext w3 w4 := ((Ext.refl _).alloc _).grown_ hg4 (by simp); have hb4' := hb3.ext hx4)
        | (refine wpList_load_blk rfl 27 (.tmp 4) rfl w3.heap.size rfl _ _ _ hb4 Tryd.underlying27 rfl (by rw [hxs]; kernel_rfl) ?_)
        | (refine wpList_store_blk rfl 27 (.tmp 2) (.tmp 26) rfl rfl w.heap.size (bv x).toArray rfl rfl _ _ hb4' (by rw [hxs]; rfl) (by kernel_rfl) (bv_cells _) ?_; intro w5 hb5 hg5))
      refine bodyPost_ret (results_cell_row (P := Tryd.prog) (fn := Tryd.f62) rfl _ _ _ _ (bv x).toArray _ _ rfl hb5 Tryd.underlying27 rfl (by rw [hxs]; kernel_rfl)) rfl ⟨rfl, (hr3.ext hx4).grown hg5 (fun k hk => by cases hk; exact hgw), ?_⟩
      exact turns_row (turns_ext ht03 hx4) hg5 (fun j hj => by cases hj; exact Nat.le_refl _)
    | false =>
      rw [hcan] at hpar
      clear hcan
      have htk3 := fun w' h' => rtake_calls g r2 (-1) w' h'
      rw [take_neg] at htk3
      go_enter Tryd.func62, Tryd.ntmps62
      go_wp2_with (first
        | (go_at_call 60; first
          | ((with_reducible refine (htk3 _ hr4).mono ?_); rintro e w4' ⟨rfl, hr4', ht4⟩; have hb6 := ht4.blk hb4 (by omega); have hb6' := ht4.blk hb4' (by omega); have ht06 := (turns_ext ht03 hx4).trans ht4)
          | ((with_reducible refine (htk2 _ hr1).mono ?_); rintro e w2 ⟨rfl, hr2, ht2⟩; have hb2 := ht2.blk hb1 (by omega); have ht02 := ht01.trans ht2)
          | ((with_reducible refine (htk _ (h.ext ((Ext.refl _).alloc _))).mono ?_); rintro e w1 ⟨rfl, hr1, ht1⟩; have hb1 := ht1.blk (Blk.new w 27 (bv idNone).toArray) (by omega); have ht01 := (turns_of ((Ext.refl _).alloc _) g).trans ht1))
        | (go_at_call 34; ((with_reducible refine (hsz _).mono ?_); rintro e w1' ⟨rfl, rfl⟩))
        | (go_at_call 91; ((with_reducible refine (hpar _).mono ?_); rintro e w3 ⟨rfl, hx3⟩; have hb3 := hb2.ext hx3; have ht03 := turns_ext ht02 hx3; have hr3 := hr2.ext hx3; have hs3 := ht03.size))
        | (refine wpList_store_blk rfl 27 (.tmp 4) (.tmp 20) rfl rfl w3.heap.size (bv x).toArray rfl rfl _ _ (Blk.new_at rfl _ _) (by rw [hxs]; rfl) (by kernel_rfl) (bv_cells _) ?_; intro w4 hb4 hg4; have hx4 : Ext w3 w4 := ((Ext.refl _).alloc _).grown_ hg4 (by simp); have hb4' := hb3.ext hx4; have hr4 := hr3.ext hx4)
        | (refine wpList_load_blk rfl 27 (.tmp 4) rfl w3.heap.size rfl _ _ _ hb6 Tryd.underlying27 rfl (by rw [hxs]; kernel_rfl) ?_)
        | (refine wpList_store_blk rfl 27 (.tmp 2) (.tmp 26) rfl rfl w.heap.size (bv x).toArray rfl rfl _ _ hb6' (by rw [hxs]; rfl) (by kernel_rfl) (bv_cells _) ?_; intro w5 hb5 hg5))
      refine bodyPost_ret (results_cell_row (P := Tryd.prog) (fn := Tryd.f62) rfl _ _ _ _ (bv x).toArray _ _ rfl hb5 Tryd.underlying27 rfl (by rw [hxs]; kernel_rfl)) rfl ⟨rfl, hr4'.grown hg5 (fun k hk => by cases hk; exact hgw), ?_⟩
      exact turns_row ht06 hg5 (fun j hj => by cases hj; exact Nat.le_refl _)

theorem take_text (k : UInt8) (b : List UInt8) (h0 : 0 < idN k) : (idPad (PR.take ⟨k :: b, false⟩ (1 + (idN k : Int))).1, (PR.take ⟨k :: b, false⟩ (1 + (idN k : Int))).2) = pid ⟨k :: b, false⟩ := by
  have hp : pid ⟨k :: b, false⟩ = if idN k = 0 ∨ b.length < idN k then (idNone, PR.fail) else (idPad (k :: b.take (idN k)), ⟨b.drop (idN k), false⟩) := rfl
  have e : PR.take ⟨k :: b, false⟩ (1 + (idN k : Int)) = if b.length < idN k then ([], PR.fail) else (k :: b.take (idN k), ⟨b.drop (idN k), false⟩) := by
    unfold PR.take
    by_cases h : b.length < idN k
    · rw [if_pos (by simp; omega), if_pos h]
    · rw [if_neg (by simp; omega), if_neg h]
      have : (1 + (idN k : Int)).toNat = idN k + 1 := by omega
      rw [this]
      rfl
  rw [e, hp]
  by_cases h : b.length < idN k
  · rw [if_pos h, if_pos (Or.inr h : idN k = 0 ∨ b.length < idN k)]
    rfl
  · rw [if_neg h, if_neg (by omega : ¬ (idN k = 0 ∨ b.length < idN k))]
theorem take_text_len (k : UInt8) (b : List UInt8) : (PR.take ⟨k :: b, false⟩ (1 + (idN k : Int))).1.length ≤ 33 := by
  have := idN_le k
  unfold PR.take
  split
  · simp
  · rw [List.length_take]
    omega
theorem pid_zero (k : UInt8) (b : List UInt8) (h0 : idN k = 0) (bad : Bool) : pid ⟨k :: b, bad⟩ = (idNone, PR.fail) := by
  have hp : pid ⟨k :: b, bad⟩ = if idN k = 0 ∨ b.length < idN k then (idNone, PR.fail) else (idPad (k :: b.take (idN k)), ⟨b.drop (idN k), bad⟩) := rfl
  rw [hp, if_pos (Or.inl h0 : idN k = 0 ∨ b.length < idN k)]

set_option maxRecDepth 50000 in
set_option maxHeartbeats 4000000 in
theorem rname15_calls (g : Nat) (r : PR) (w : World) (h : RRdr w g r) (hok : r.Ok) :
    Calls Tryd.prog 71 #[.pointer (some ⟨g, 0, none⟩)] w fun e w' => e = .returned (idv (pid r).1) ∧ RRdr w' g (pid r).2 ∧ Turns w w' g := by
  have hgw : g < w.heap.size := h.1.lt
  have hlen := h.2
  obtain ⟨rb, bad⟩ := r
  have cS : ∀ o, (w.alloc o).cell? ⟨g, 0, none⟩ = some (.string (bstr rb)) := fun o => by rw [(h.1.alloc o).cell]; rfl
  have hfl := fun w' h' => rrfail_calls g ⟨rb, bad⟩ w' h'
  simp only at hlen
  cases rb with
  | nil =>
    have e : pid ⟨[], bad⟩ = (idNone, PR.fail) := rfl
    rw [e]
    have hz : (bstr []).size = 0 := bstr_size _
    clear e hok
    go_enter Tryd.func71, Tryd.ntmps71
    go_wp2_with (first
      | (go_at_call 97; ((with_reducible refine (hfl _ (h.ext ((Ext.refl _).alloc _))).mono ?_); rintro e w1 ⟨rfl, hr1, ht1⟩; have hb1 := ht1.blk (Blk.new w 27 (bv idNone).toArray) (by omega)))
      | (refine wpList_store_blk rfl 27 (.tmp 2) (.tmp 20) rfl rfl w.heap.size (bv idNone).toArray rfl rfl _ _ hb1 rfl (by kernel_rfl) (bv_cells _) ?_; intro w2 hb2 hg2))
    refine bodyPost_ret (results_cell_row (P := Tryd.prog) (fn := Tryd.f71) rfl _ _ _ _ (bv idNone).toArray _ _ rfl hb2 Tryd.underlying27 rfl (by kernel_rfl)) rfl ⟨rfl, ⟨hr1.1.grown hg2 (fun e => by cases e; omega), hr1.2⟩, ?_⟩
    exact turns_row ((turns_of ((Ext.refl _).alloc _) g).trans ht1) hg2 (fun j hj => by cases hj; exact Nat.le_refl _)
  | cons k b =>
    have hbad : bad = false := by
      cases bad with
      | false => rfl
      | true => have := hok rfl; cases this
    subst hbad
    have hz : (bstr (k :: b)).size = b.length + 1 := bstr_size _
    rw [List.length_cons] at hlen
    have hget : ∀ h' : 0 < (bstr (k :: b)).size, (bstr (k :: b))[0]'h' = k := fun h' => bstr_get (bs := k :: b) (j := 0) (by rw [List.length_cons]; omega) h'
    have hsz := fun w' => rsize_calls k w'
    have hl0 : (((b.length : Int) + 1 == 0) : Bool) = false := by rw [beq_eq_false_iff_ne]; omega
    by_cases h0 : idN k = 0
    · rw [pid_zero k b h0]
      rw [h0] at hsz
      clear h0 hok
      go_enter Tryd.func71, Tryd.ntmps71
      go_wp2_with (first
        | (go_at_call 86; ((with_reducible refine (hsz _).mono ?_); rintro e w1' ⟨rfl, rfl⟩))
        | (go_at_call 97; ((with_reducible refine (hfl _ (h.ext ((Ext.refl _).alloc _))).mono ?_); rintro e w1 ⟨rfl, hr1, ht1⟩; have hb1 := ht1.blk (Blk.new w 27 (bv idNone).toArray) (by omega)))
        | (refine wpList_store_blk rfl 27 (.tmp 2) (.tmp 20) rfl rfl w.heap.size (bv idNone).toArray rfl rfl _ _ hb1 rfl (by kernel_rfl) (bv_cells _) ?_; intro w2 hb2 hg2))
      refine bodyPost_ret (results_cell_row (P := Tryd.prog) (fn := Tryd.f71) rfl _ _ _ _ (bv idNone).toArray _ _ rfl hb2 Tryd.underlying27 rfl (by kernel_rfl)) rfl ⟨rfl, ⟨hr1.1.grown hg2 (fun e => by cases e; omega), hr1.2⟩, ?_⟩
      exact turns_row ((turns_of ((Ext.refl _).alloc _) g).trans ht1) hg2 (fun j hj => by cases hj; exact Nat.le_refl _)
    · have hp := take_text k b (by omega)
      have htl := take_text_len k b
      have htk := fun w' h' => rrtake_calls g ⟨k :: b, false⟩ (1 + (idN k : Int)) w' h'
      obtain ⟨t, r2, htr⟩ : ∃ t r2, PR.take ⟨k :: b, false⟩ (1 + (idN k : Int)) = (t, r2) := ⟨_, _, rfl⟩
      rw [htr] at hp htl htk
      rw [← hp]
      simp only at htl htk ⊢
      have hn32 := idN_le k
      have hid := fun w' => rid_calls t w' htl
      have hxs : (bv (idPad t)).toArray.size = 33 := by rw [List.size_toArray, bv_len, idPad_len htl]
      unfold idv at hid
      unfold idv
      clear hp htr
      generalize idN k = n at hsz htk h0 hn32
      have hnb : (((n : Int) == 0) : Bool) = false := by rw [beq_eq_false_iff_ne]; omega
      clear h0 hok
      generalize idPad t = x at hid hxs ⊢
      go_enter Tryd.func71, Tryd.ntmps71
      go_wp2_with (first
        | (go_at_call 86; ((with_reducible refine (hsz _).mono ?_); rintro e w1' ⟨rfl, rfl⟩))
        | (go_at_call 69; ((with_reducible refine (htk _ (h.ext ((Ext.refl _).alloc _))).mono ?_); rintro e w1 ⟨rfl, hr1, ht1⟩; have hb1 := ht1.blk (Blk.new w 27 (bv idNone).toArray) (by omega)))
        | (go_at_call 67; ((with_reducible refine (hid _).mono ?_); rintro e w3 ⟨rfl, hx3⟩; have hb3 := hb1.ext hx3))
        | (refine wpList_store_blk rfl 27 (.tmp 2) (.tmp 30) rfl rfl w.heap.size (bv x).toArray rfl rfl _ _ hb3 (by rw [hxs]; rfl) (by kernel_rfl) (bv_cells _) ?_; intro w2 hb2 hg2))
      refine bodyPost_ret (results_cell_row (P := Tryd.prog) (fn := Tryd.f71) rfl _ _ _ _ (bv x).toArray _ _ rfl hb2 Tryd.underlying27 rfl (by rw [hxs]; kernel_rfl)) rfl ⟨rfl, ⟨(hr1.1.ext hx3).grown hg2 (fun e => by cases e; omega), hr1.2⟩, ?_⟩
      exact turns_row (turns_ext ((turns_of ((Ext.refl _).alloc _) g).trans ht1) hx3) hg2 (fun j hj => by cases hj; exact Nat.le_refl _)
end Go.Proofs.YtcnhbodemabbdaaDoor
