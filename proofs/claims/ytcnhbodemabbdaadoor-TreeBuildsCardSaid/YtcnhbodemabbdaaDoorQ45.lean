/- A name that stands in bytes: the walks of object.id and of the reference's name. -/
import Derived.Test.YtcnhbodemabbdaaDoorQ43
import Derived.Test.YtcnhbodemabbdaaDoorQ44
import Derived.Test.YtcnhbodemabbdaaDoorQ17
import Derived.Test.YtcnhbodemabbdaaDoorQ24
import Derived.Test.YtcnhbodemabbdaaDoorQ26
namespace Go.Proofs.YtcnhbodemabbdaaDoor
open Go.RowKit
set_option linter.unusedVariables false

theorem turns_row {w0 w w' : World} {g : Nat} (T : Turns w0 w g) {row : Option Nat} (h : w.grownBy w' row) (hr : ∀ j, row = some j → w0.heap.size ≤ j) : Turns w0 w' g :=
  ⟨h.os.trans T.os, h.tape.trans T.tape, h.output.trans T.output, Nat.le_trans T.size h.size, fun k hk hne => (h.block k (Nat.lt_of_lt_of_le hk T.size) (fun e => by have := hr k e.symm; omega)).trans (T.block k hk hne)⟩
theorem turns_of {w w' : World} (k : Ext w w') (g : Nat) : Turns w w' g := ⟨k.os, k.tape, k.output, k.size, fun j hj _ => k.block j hj⟩
theorem turns_ext {w0 w w' : World} {g : Nat} (T : Turns w0 w g) (k : Ext w w') : Turns w0 w' g := turns_row T (grown_of_ext k) (fun _ h => by cases h)
theorem take_nil (b : Bool) : PR.take ⟨[], b⟩ 1 = ([], PR.fail) := by
  unfold PR.take
  rw [if_pos]
  refine .inr (.inr ?_)
  show ((0 : Nat) : Int) < 1
  omega
theorem take_neg (r : PR) : PR.take r (-1) = ([], PR.fail) := by
  unfold PR.take
  rw [if_pos]
  exact .inr (.inl (by decide))
theorem take_one (k : UInt8) (b : List UInt8) : PR.take ⟨k :: b, false⟩ 1 = ([k], ⟨b, false⟩) := by
  unfold PR.take
  rw [if_neg (by simp; omega)]
  rfl
theorem take_n (b : List UInt8) (n : Nat) : PR.take ⟨b, false⟩ n = if b.length < n then ([], PR.fail) else (b.take n, ⟨b.drop n, false⟩) := by
  unfold PR.take
  by_cases h : b.length < n
  · rw [if_pos (by simp; omega), if_pos h]
  · rw [if_neg (by simp; omega), if_neg h, Int.toNat_natCast]
/-- The program's way to a name. -/
theorem pid_way (k : UInt8) (b : List UInt8) : (if idCan (k :: (PR.take ⟨b, false⟩ (idN k)).1) then idPad (k :: (PR.take ⟨b, false⟩ (idN k)).1) else idNone) = (pid ⟨k :: b, false⟩).1 ∧
    (if idCan (k :: (PR.take ⟨b, false⟩ (idN k)).1) then (PR.take ⟨b, false⟩ (idN k)).2 else PR.fail) = (pid ⟨k :: b, false⟩).2 := by
  rw [take_n]
  have hk : ∀ l : List UInt8, idKind (k :: l) = k := fun l => rfl
  have hp : pid ⟨k :: b, false⟩ = if idN k = 0 ∨ b.length < idN k then (idNone, PR.fail) else (idPad (k :: b.take (idN k)), ⟨b.drop (idN k), false⟩) := rfl
  by_cases h0 : idN k = 0
  · have hc : ∀ l, idCan (k :: l) = false := by
      intro l
      unfold idCan
      rw [hk, h0]
      rfl
    rw [hp, if_pos (Or.inl h0 : idN k = 0 ∨ b.length < idN k)]
    simp only [hc, Bool.false_eq_true, if_false]
    exact ⟨trivial, trivial⟩
  · by_cases h1 : b.length < idN k
    · have hc : idCan [k] = false := by
        unfold idCan
        have : idKind [k] = k := rfl
        rw [this]
        simp only [List.length_cons, List.length_nil, Nat.zero_add, Bool.and_eq_false_iff, decide_eq_false_iff_not]
        omega
      rw [hp, if_pos (Or.inr h1 : idN k = 0 ∨ b.length < idN k), if_pos h1]
      simp only [hc, Bool.false_eq_true, if_false]
      exact ⟨trivial, trivial⟩
    · have hc : idCan (k :: b.take (idN k)) = true := by
        unfold idCan
        rw [hk, List.length_cons, List.length_take]
        simp only [Bool.and_eq_true, decide_eq_true_eq]
        omega
      rw [hp, if_neg (by omega : ¬ (idN k = 0 ∨ b.length < idN k)), if_neg h1]
      simp only [hc, if_true]
      exact ⟨trivial, trivial⟩
theorem isEmpty_bstr (k : UInt8) (l : List UInt8) : (bstr (k :: l)).toList.isEmpty = false := by
  rw [List.isEmpty_eq_false_iff, ByteArray.toList_eq, bstr_data]
  exact List.cons_ne_nil _ _
theorem bstr_ne (k : UInt8) (l : List UInt8) : ¬ (bstr (k :: l)).toList = [] := by rw [ByteArray.toList_eq, bstr_data]; exact List.cons_ne_nil _ _
theorem bstr_nil_list : (bstr []).toList = [] := by rw [ByteArray.toList_eq, bstr_data]

set_option maxRecDepth 50000 in
set_option maxHeartbeats 4000000 in
theorem oid_calls (g : Nat) (r : PR) (w : World) (h : Rdr w g r) (hok : r.Ok) :
    Calls Tryd.prog 62 #[.pointer (some ⟨g, 0, none⟩)] w fun e w' => e = .returned (idv (pid r).1) ∧ Rdr w' g (pid r).2 ∧ Turns w w' g := by
  have hgw : g < w.heap.size := by obtain ⟨A, c, h1, _⟩ := h; exact h1.lt
  obtain ⟨rb, bad⟩ := r
  cases rb with
  | nil =>
    have e : pid ⟨[], bad⟩ = (idNone, PR.fail) := rfl
    rw [e]
    have htk := fun w' h' => rtake_calls g ⟨[], bad⟩ 1 w' h'
    rw [take_nil] at htk
    have hnil := bstr_nil_list
    clear e
    go_enter Tryd.func62, Tryd.ntmps62
    go_wp2_with (first
      | (go_at_call 60; ((with_reducible refine (htk _ (h.ext ((Ext.refl _).alloc _))).mono ?_); rintro e w1 ⟨rfl, hr1, ht1⟩; have hb1 := ht1.blk (Blk.new w 27 (bv idNone).toArray) (by omega)))
      | (refine wpList_store_blk rfl 27 (.tmp 2) (.tmp 10) rfl rfl w.heap.size (bv idNone).toArray rfl rfl _ _ hb1 rfl (by kernel_rfl) (bv_cells _) ?_; intro w2 hb2 hg2))
    refine bodyPost_ret (results_cell_row (P := Tryd.prog) (fn := Tryd.f62) rfl _ _ _ _ (bv idNone).toArray _ _ rfl hb2 Tryd.underlying27 rfl (by kernel_rfl)) rfl ⟨rfl, hr1.grown hg2 (fun k hk => by cases hk; exact hgw), ?_⟩
    exact turns_row ((turns_of ((Ext.refl _).alloc _) g).trans ht1) hg2 (fun j hj => by cases hj; exact Nat.le_refl _)
  | cons k b =>
    have hbad : bad = false := by
      cases bad with
      | false => rfl
      | true => have := hok rfl; cases this
    subst hbad
    obtain ⟨e1, e2⟩ := pid_way k b
    rw [← e1, ← e2]
    obtain ⟨t, r2, htr⟩ : ∃ t r2, PR.take ⟨b, false⟩ (idN k) = (t, r2) := ⟨_, _, rfl⟩
    rw [htr]
    simp only
    have htl : t.length ≤ 32 := by
      have := idN_le k
      rw [take_n] at htr
      split at htr
      · cases htr; simp
      · cases htr; rw [List.length_take]; omega
    have htk := fun w' h' => rtake_calls g ⟨k :: b, false⟩ 1 w' h'
    rw [take_one] at htk
    have htk2 := fun w' h' => rtake_calls g ⟨b, false⟩ (idN k) w' h'
    rw [htr] at htk2
    have hpar := fun w' => idparse_calls (k :: t) w' (by rw [List.length_cons]; omega)
    have happ : bstr [k] ++ bstr t = bstr (k :: t) := bstr_append [k] t
    have hemp := isEmpty_bstr k []
    have hne := bstr_ne k []
    have hsz1 : (bstr [k]).size = 1 := bstr_size _
    have hszt : (bstr t).size ≤ 32 := by rw [bstr_size]; exact htl
    have hget : ∀ h' : 0 < (bstr [k]).size, (bstr [k])[0]'h' = k := fun h' => bstr_get (bs := [k]) (j := 0) (by show 0 < 1; decide) h'
    have hsz := fun w' => size_calls k w'
    generalize idN k = n at hsz htk2
    obtain ⟨x, hx⟩ : ∃ x, x = (if idCan (k :: t) then idPad (k :: t) else idNone) := ⟨_, rfl⟩
    have hxl : x.length = 33 := by
      rw [hx]
      split
      · exact idPad_len (by rw [List.length_cons]; omega)
      · exact idNone_len
    rw [← hx] at hpar ⊢
    have hxs : (bv x).toArray.size = 33 := by rw [List.size_toArray, bv_len, hxl]
    unfold idv at hpar
    unfold idv
    clear hx e1 e2 htr htl hxl hok
    cases hcan : idCan (k :: t) with
    | true =>
      rw [hcan] at hpar
      clear hcan
      go_enter Tryd.func62, Tryd.ntmps62
      go_wp2_with (first
        | (go_at_call 60; first
          | ((with_reducible refine (htk2 _ hr1).mono ?_); rintro e w2 ⟨rfl, hr2, ht2⟩; have hb2 := ht2.blk hb1 (by omega); have ht02 := ht01.trans ht2)
          | ((with_reducible refine (htk _ (h.ext ((Ext.refl _).alloc _))).mono ?_); rintro e w1 ⟨rfl, hr1, ht1⟩; have hb1 := ht1.blk (Blk.new w 27 (bv idNone).toArray) (by omega); have ht01 := (turns_of ((Ext.refl _).alloc _) g).trans ht1))
        | (go_at_call 34; ((with_reducible refine (hsz _).mono ?_); rintro e w1' ⟨rfl, rfl⟩))
        | (go_at_call 91; ((with_reducible refine (hpar _).mono ?_); rintro e w3 ⟨rfl, hx3⟩; have hb3 := hb2.ext hx3; have ht03 := turns_ext ht02 hx3; have hr3 := hr2.ext hx3; have hs3 := ht03.size))
        | (refine wpList_store_blk rfl 27 (.tmp 4) (.tmp 20) rfl rfl w3.heap.size (bv x).toArray rfl rfl _ _ (Blk.new_at rfl _ _) (by rw [hxs]; rfl) (by kernel_rfl) (bv_cells _) ?_; intro w4 hb4 hg4; have hx4 : Ext w3 w4 := ((Ext.refl _).alloc _).grown_ hg4 (by simp); have hb4' := hb3.ext hx4)
        | (refine wpList_load_blk rfl 27 (.tmp 4) rfl w3.heap.size rfl _ _ _ hb4 Tryd.underlying27 rfl (by rw [hxs]; kernel_rfl) ?_)
        | (refine wpList_store_blk rfl 27 (.tmp 2) (.tmp 26) rfl rfl w.heap.size (bv x).toArray rfl rfl _ _ hb4' (by rw [hxs]; rfl) (by kernel_rfl) (bv_cells _) ?_; intro w5 hb5 hg5))
      refine bodyPost_ret (results_cell_row (P := Tryd.prog) (fn := Tryd.f62) rfl _ _ _ _ (bv x).toArray _ _ rfl hb5 Tryd.underlying27 rfl (by rw [hxs]; kernel_rfl)) rfl ⟨rfl, (hr3.ext hx4).grown hg5 (fun k hk => by cases hk; exact hgw), ?_⟩
      exact turns_row (turns_ext ht03 hx4) hg5 (fun j hj => by cases hj; exact Nat.le_refl _)
    | false =>
      rw [hcan] at hpar
      clear hcan
      have htk3 := fun w' h' => rtake_calls g r2 (-1) w' h'
      rw [take_neg] at htk3
      go_enter Tryd.func62, Tryd.ntmps62
      go_wp2_with (first
        | (go_at_call 60; first
          | ((with_reducible refine (htk3 _ hr4).mono ?_); rintro e w4' ⟨rfl, hr4', ht4⟩; have hb6 := ht4.blk hb4 (by omega); have hb6' := ht4.blk hb4' (by omega); have ht06 := (turns_ext ht03 hx4).trans ht4)
          | ((with_reducible refine (htk2 _ hr1).mono ?_); rintro e w2 ⟨rfl, hr2, ht2⟩; have hb2 := ht2.blk hb1 (by omega); have ht02 := ht01.trans ht2)
          | ((with_reducible refine (htk _ (h.ext ((Ext.refl _).alloc _))).mono ?_); rintro e w1 ⟨rfl, hr1, ht1⟩; have hb1 := ht1.blk (Blk.new w 27 (bv idNone).toArray) (by omega); have ht01 := (turns_of ((Ext.refl _).alloc _) g).trans ht1))
        | (go_at_call 34; ((with_reducible refine (hsz _).mono ?_); rintro e w1' ⟨rfl, rfl⟩))
        | (go_at_call 91; ((with_reducible refine (hpar _).mono ?_); rintro e w3 ⟨rfl, hx3⟩; have hb3 := hb2.ext hx3; have ht03 := turns_ext ht02 hx3; have hr3 := hr2.ext hx3; have hs3 := ht03.size))
        | (refine wpList_store_blk rfl 27 (.tmp 4) (.tmp 20) rfl rfl w3.heap.size (bv x).toArray rfl rfl _ _ (Blk.new_at rfl _ _) (by rw [hxs]; rfl) (by kernel_rfl) (bv_cells _) ?_; intro w4 hb4 hg4; have hx4 : Ext w3 w4 := ((Ext.refl _).alloc _).grown_ hg4 (by simp); have hb4' := hb3.ext hx4; have hr4 := hr3.ext hx4)
        | (refine wpList_load_blk rfl 27 (.tmp 4) rfl w3.heap.size rfl _ _ _ hb6 Tryd.underlying27 rfl (by rw [hxs]; kernel_rfl) ?_)
        | (refine wpList_store_blk rfl 27 (.tmp 2) (.tmp 26) rfl rfl w.heap.size (bv x).toArray rfl rfl _ _ hb6' (by rw [hxs]; rfl) (by kernel_rfl) (bv_cells _) ?_; intro w5 hb5 hg5))
      refine bodyPost_ret (results_cell_row (P := Tryd.prog) (fn := Tryd.f62) rfl _ _ _ _ (bv x).toArray _ _ rfl hb5 Tryd.underlying27 rfl (by rw [hxs]; kernel_rfl)) rfl ⟨rfl, hr4'.grown hg5 (fun k hk => by cases hk; exact hgw), ?_⟩
      exact turns_row ht06 hg5 (fun j hj => by cases hj; exact Nat.le_refl _)

theorem take_text (k : UInt8) (b : List UInt8) (h0 : 0 < idN k) : (idPad (PR.take ⟨k :: b, false⟩ (1 + (idN k : Int))).1, (PR.take ⟨k :: b, false⟩ (1 + (idN k : Int))).2) = pid ⟨k :: b, false⟩ := by
  have hp : pid ⟨k :: b, false⟩ = if idN k = 0 ∨ b.length < idN k then (idNone, PR.fail) else (idPad (k :: b.take (idN k)), ⟨b.drop (idN k), false⟩) := rfl
  have e : PR.take ⟨k :: b, false⟩ (1 + (idN k : Int)) = if b.length < idN k then ([], PR.fail) else (k :: b.take (idN k), ⟨b.drop (idN k), false⟩) := by
    unfold PR.take
    by_cases h : b.length < idN k
    · rw [if_pos (by simp; omega), if_pos h]
    · rw [if_neg (by simp; omega), if_neg h]
      have : (1 + (idN k : Int)).toNat = idN k + 1 := by omega
      rw [this]
      rfl
  rw [e, hp]
  by_cases h : b.length < idN k
  · rw [if_pos h, if_pos (Or.inr h : idN k = 0 ∨ b.length < idN k)]
    rfl
  · rw [if_neg h, if_neg (by omega : ¬ (idN k = 0 ∨ b.length < idN k))]
theorem take_text_len (k : UInt8) (b : List UInt8) : (PR.take ⟨k :: b, false⟩ (1 + (idN k : Int))).1.length ≤ 33 := by
  have := idN_le k
  unfold PR.take
  split
  · simp
  · rw [List.length_take]
    omega
theorem pid_zero (k : UInt8) (b : List UInt8) (h0 : idN k = 0) (bad : Bool) : pid ⟨k :: b, bad⟩ = (idNone, PR.fail) := by
  have hp : pid ⟨k :: b, bad⟩ = if idN k = 0 ∨ b.length < idN k then (idNone, PR.fail) else (idPad (k :: b.take (idN k)), ⟨b.drop (idN k), bad⟩) := rfl
  rw [hp, if_pos (Or.inl h0 : idN k = 0 ∨ b.length < idN k)]

set_option maxRecDepth 50000 in
set_option maxHeartbeats 4000000 in
theorem rname15_calls (g : Nat) (r : PR) (w : World) (h : RRdr w g r) (hok : r.Ok) :
    Calls Tryd.prog 71 #[.pointer (some ⟨g, 0, none⟩)] w fun e w' => e = .returned (idv (pid r).1) ∧ RRdr w' g (pid r).2 ∧ Turns w w' g := by
  have hgw : g < w.heap.size := h.1.lt
  have hlen := h.2
  obtain ⟨rb, bad⟩ := r
  have cS : ∀ o, (w.alloc o).cell? ⟨g, 0, none⟩ = some (.string (bstr rb)) := fun o => by rw [(h.1.alloc o).cell]; rfl
  have hfl := fun w' h' => rrfail_calls g ⟨rb, bad⟩ w' h'
  simp only at hlen
  cases rb with
  | nil =>
    have e : pid ⟨[], bad⟩ = (idNone, PR.fail) := rfl
    rw [e]
    have hz : (bstr []).size = 0 := bstr_size _
    clear e hok
    go_enter Tryd.func71, Tryd.ntmps71
    go_wp2_with (first
      | (go_at_call 97; ((with_reducible refine (hfl _ (h.ext ((Ext.refl _).alloc _))).mono ?_); rintro e w1 ⟨rfl, hr1, ht1⟩; have hb1 := ht1.blk (Blk.new w 27 (bv idNone).toArray) (by omega)))
      | (refine wpList_store_blk rfl 27 (.tmp 2) (.tmp 20) rfl rfl w.heap.size (bv idNone).toArray rfl rfl _ _ hb1 rfl (by kernel_rfl) (bv_cells _) ?_; intro w2 hb2 hg2))
    refine bodyPost_ret (results_cell_row (P := Tryd.prog) (fn := Tryd.f71) rfl _ _ _ _ (bv idNone).toArray _ _ rfl hb2 Tryd.underlying27 rfl (by kernel_rfl)) rfl ⟨rfl, ⟨hr1.1.grown hg2 (fun e => by cases e; omega), hr1.2⟩, ?_⟩
    exact turns_row ((turns_of ((Ext.refl _).alloc _) g).trans ht1) hg2 (fun j hj => by cases hj; exact Nat.le_refl _)
  | cons k b =>
    have hbad : bad = false := by
      cases bad with
      | false => rfl
      | true => have := hok rfl; cases this
    subst hbad
    have hz : (bstr (k :: b)).size = b.length + 1 := bstr_size _
    rw [List.length_cons] at hlen
    have hget : ∀ h' : 0 < (bstr (k :: b)).size, (bstr (k :: b))[0]'h' = k := fun h' => bstr_get (bs := k :: b) (j := 0) (by rw [List.length_cons]; omega) h'
    have hsz := fun w' => rsize_calls k w'
    have hl0 : (((b.length : Int) + 1 == 0) : Bool) = false := by rw [beq_eq_false_iff_ne]; omega
    by_cases h0 : idN k = 0
    · rw [pid_zero k b h0]
      rw [h0] at hsz
      clear h0 hok
      go_enter Tryd.func71, Tryd.ntmps71
      go_wp2_with (first
        | (go_at_call 86; ((with_reducible refine (hsz _).mono ?_); rintro e w1' ⟨rfl, rfl⟩))
        | (go_at_call 97; ((with_reducible refine (hfl _ (h.ext ((Ext.refl _).alloc _))).mono ?_); rintro e w1 ⟨rfl, hr1, ht1⟩; have hb1 := ht1.blk (Blk.new w 27 (bv idNone).toArray) (by omega)))
        | (refine wpList_store_blk rfl 27 (.tmp 2) (.tmp 20) rfl rfl w.heap.size (bv idNone).toArray rfl rfl _ _ hb1 rfl (by kernel_rfl) (bv_cells _) ?_; intro w2 hb2 hg2))
      refine bodyPost_ret (results_cell_row (P := Tryd.prog) (fn := Tryd.f71) rfl _ _ _ _ (bv idNone).toArray _ _ rfl hb2 Tryd.underlying27 rfl (by kernel_rfl)) rfl ⟨rfl, ⟨hr1.1.grown hg2 (fun e => by cases e; omega), hr1.2⟩, ?_⟩
      exact turns_row ((turns_of ((Ext.refl _).alloc _) g).trans ht1) hg2 (fun j hj => by cases hj; exact Nat.le_refl _)
    · have hp := take_text k b (by omega)
      have htl := take_text_len k b
      have htk := fun w' h' => rrtake_calls g ⟨k :: b, false⟩ (1 + (idN k : Int)) w' h'
      obtain ⟨t, r2, htr⟩ : ∃ t r2, PR.take ⟨k :: b, false⟩ (1 + (idN k : Int)) = (t, r2) := ⟨_, _, rfl⟩
      rw [htr] at hp htl htk
      rw [← hp]
      simp only at htl htk ⊢
      have hn32 := idN_le k
      have hid := fun w' => rid_calls t w' htl
      have hxs : (bv (idPad t)).toArray.size = 33 := by rw [List.size_toArray, bv_len, idPad_len htl]
      unfold idv at hid
      unfold idv
      clear hp htr
      generalize idN k = n at hsz htk h0 hn32
      have hnb : (((n : Int) == 0) : Bool) = false := by rw [beq_eq_false_iff_ne]; omega
      clear h0 hok
      generalize idPad t = x at hid hxs ⊢
      go_enter Tryd.func71, Tryd.ntmps71
      go_wp2_with (first
        | (go_at_call 86; ((with_reducible refine (hsz _).mono ?_); rintro e w1' ⟨rfl, rfl⟩))
        | (go_at_call 69; ((with_reducible refine (htk _ (h.ext ((Ext.refl _).alloc _))).mono ?_); rintro e w1 ⟨rfl, hr1, ht1⟩; have hb1 := ht1.blk (Blk.new w 27 (bv idNone).toArray) (by omega)))
        | (go_at_call 67; ((with_reducible refine (hid _).mono ?_); rintro e w3 ⟨rfl, hx3⟩; have hb3 := hb1.ext hx3))
        | (refine wpList_store_blk rfl 27 (.tmp 2) (.tmp 30) rfl rfl w.heap.size (bv x).toArray rfl rfl _ _ hb3 (by rw [hxs]; rfl) (by kernel_rfl) (bv_cells _) ?_; intro w2 hb2 hg2))
      refine bodyPost_ret (results_cell_row (P := Tryd.prog) (fn := Tryd.f71) rfl _ _ _ _ (bv x).toArray _ _ rfl hb2 Tryd.underlying27 rfl (by rw [hxs]; kernel_rfl)) rfl ⟨rfl, ⟨(hr1.1.ext hx3).grown hg2 (fun e => by cases e; omega), hr1.2⟩, ?_⟩
      exact turns_row (turns_ext ((turns_of ((Ext.refl _).alloc _) g).trans ht1) hx3) hg2 (fun j hj => by cases hj; exact Nat.le_refl _)
end Go.Proofs.YtcnhbodemabbdaaDoor
/- The walk of object.GetTree. Printed by wip/mkobjget.py. -/
namespace Go.Proofs.YtcnhbodemabbdaaDoor
open Go.RowKit
set_option linter.unusedVariables false

abbrev trZ : Tr := ⟨[], []⟩
theorem trZ_at (w : World) : TrAt w trZ none none 0 0 0 0 := ⟨rfl, rfl, Nat.le_refl _, Nat.le_refl _, Row.nil _ _ _, Row.nil _ _ _, by omega, by omega, fun p h => (by cases h), fun p h => (by cases h)⟩
/-- What is answered: a tree, and a word on whether there is one. -/
def TrPost (f : Bool → Value) (d : Option Tr) (w : World) (e : Ending) (w' : World) : Prop :=
  ∃ (pa ka : Option Addr) (P K pc kc : Nat), e = .returned (.tuple #[tra pa P pc ka K kc, f d.isSome]) ∧ TrAt w' (d.getD trZ) pa ka P K pc kc ∧ Ext w w'
abbrev fErr : Bool → Value := fun b => .int .i64 (if b then 0 else 4)
theorem trPost_none {f : Bool → Value} {v : Value} (hv : v = f false) {w w' : World} (hx : Ext w w') {d : Option Tr} (hd : d = none) : TrPost f d w (.returned (.tuple #[tra none 0 0 none 0 0, v])) w' := by
  subst hd hv
  exact ⟨none, none, 0, 0, 0, 0, rfl, trZ_at _, hx⟩
theorem get_stays {B gR g2 : Nat} {r : PR} (h1 : gR < B) (h2 : g2 < B) : Stays B (fun u => Rdr u gR r ∧ Blk u g2 73 #[.slice none 0 0, .slice none 0 0]) := by
  intro w w' row h hg hr
  exact ⟨h.1.grown hg (fun k hk => Nat.lt_of_lt_of_le h1 (hr k hk)), h.2.grown hg (fun e => by have := hr g2 e.symm; omega)⟩
theorem get_after {gR gN g2 : Nat} {r : PR} {u : World} (h : Rdr u gR r ∧ Blk u g2 73 #[.slice none 0 0, .slice none 0 0]) (h1 : gR < gN) (h2 : g2 ≠ gN) (i : Nat) (v : Value) : Rdr (u.setCell ⟨gN, i, none⟩ v) gR r ∧ Blk (u.setCell ⟨gN, i, none⟩ v) g2 73 #[.slice none 0 0, .slice none 0 0] :=
  ⟨h.1.grown (grown_set u gN i v) (fun k hk => by cases hk; exact h1), h.2.far (p := ⟨gN, i, none⟩) h2 v⟩
abbrev trRows0 : List ORow := [⟨65, 2, 0, [], .slice none 0 0⟩, ⟨77, 34, 0, [], .slice none 0 0⟩]
theorem get_start {w w1 w2 : World} {gR : Nat} {r1 r0 : PR} (hgR : (w.alloc (.cells #[.slice none 0 0, .slice none 0 0] 73)).heap.size ≤ gR) (hR1 : Rdr w1 gR r1) (hx1 : Ext (w.alloc (.cells #[.slice none 0 0, .slice none 0 0] 73)) w1) (hR2 : Rdr w2 gR r0) (ht2 : Turns (w1.alloc (.cells #[.slice none 0 0, .slice none 0 0] 73)) w2 gR) :
    OW w w2.heap.size (fun u => Rdr u gR r0 ∧ Blk u w.heap.size 73 #[.slice none 0 0, .slice none 0 0]) w1.heap.size 73 #[.slice none 0 0, .slice none 0 0] trRows0 w2 ∧ w.heap.size < gR ∧ gR < w1.heap.size ∧ w1.heap.size < w2.heap.size := by
  have hg : w.heap.size < gR := by simp at hgR; omega
  have hR1' := hR1
  obtain ⟨A1, c1, hb1, _⟩ := hR1'
  have hgw := hb1.lt
  have hs2 := ht2.size
  simp at hs2
  have hb2 : Blk w2 w.heap.size 73 #[.slice none 0 0, .slice none 0 0] := (((Blk.new w _ _).ext hx1).alloc _).grown ht2 (by intro e; cases e; omega)
  have hN2 : Blk w2 w1.heap.size 73 #[.slice none 0 0, .slice none 0 0] := (Blk.new w1 _ _).grown ht2 (by intro e; cases e; omega)
  refine ⟨⟨Turns.ext ht2 ((((Ext.refl w).alloc _).trans hx1).alloc _) (Nat.le_of_lt hg), ⟨hR2, hb2⟩, hN2, ?_, ?_, Nat.le_refl _⟩, hg, hgw, by omega⟩
  · intro i r hi
    match i, hi with
    | 0, hi => cases hi; exact World.ownsRow_nil _ _ _ _
    | 1, hi => cases hi; exact World.ownsRow_nil _ _ _ _
    | n + 2, hi => cases hi
  · intro i j r s _ hi _ k hk
    match i, hi with
    | 0, hi => cases hi; cases hk
    | 1, hi => cases hi; cases hk
    | n + 2, hi => cases hi
/-- The tree that the rows make. -/
theorem get_fin (t : Tr) {w0 u : World} {B gN : Nat} {RP : World → Prop} {A1 A2 : Option Addr} {P K c1 c2 : Nat} {nc : Array Value}
    (hX : OW w0 B RP gN 73 nc [⟨65, 2, P, (t.pairs.map prC).flatten, .slice A1 P c1⟩, ⟨77, 34, K, (t.kids.map kdC).flatten, .slice A2 K c2⟩] u)
    (hp : t.pairs.length = P) (hk : t.kids.length = K) (bp : P ≤ 140737488351232) (bk : K ≤ 140737488351232) (sp : ∀ p ∈ t.pairs, p.1.size ≤ 140737488351232 ∧ p.2.size ≤ 140737488351232) (sk : ∀ k ∈ t.kids, k.1.size ≤ 140737488351232 ∧ k.2.length = 33) :
    TrAt u t A1 A2 P K c1 c2 := by
  have o1 := hX.own 0 _ rfl
  have o2 := hX.own 1 _ rfl
  obtain ⟨a1, d1, e1, l1, _, k1⟩ := own_form o1 (by show 0 < 2; decide)
  obtain ⟨a2, d2, e2, l2, _, k2⟩ := own_form o2 (by show 0 < 34; decide)
  cases e1; cases e2
  exact ⟨hp, hk, l1, l2, Cells.row k1 (fun cs hcs => by obtain ⟨p, _, rfl⟩ := List.mem_map.1 hcs; rfl) (by decide), Cells.row k2 (fun cs hcs => by obtain ⟨p, hp, rfl⟩ := List.mem_map.1 hcs; exact kdC_len (sk p hp).2) (by decide), bp, bk, sp, sk⟩
theorem TrAt.grown_old {w w' : World} {t : Tr} {pa ka : Option Addr} {P K pc kc : Nat} (h : TrAt w t pa ka P K pc kc) {row : Option Nat} (hg : w.grownBy w' row) (h1 : ∀ x, pa = some x → some x.block ≠ row) (h2 : ∀ x, ka = some x → some x.block ≠ row) : TrAt w' t pa ka P K pc kc := by
  refine ⟨h.hp, h.hk, h.lp, h.lk, fun i cs hi => ?_, fun i cs hi => ?_, h.bp, h.bk, h.sp, h.sk⟩
  · obtain ⟨hl, x, hx, hc⟩ := h.cp i cs hi
    exact ⟨hl, x, hx, fun j v hv => hg.cell (hc j v hv) (by rw [block_add, block_add]; exact h1 x hx)⟩
  · obtain ⟨hl, x, hx, hc⟩ := h.ck i cs hi
    exact ⟨hl, x, hx, fun j v hv => hg.cell (hc j v hv) (by rw [block_add, block_add]; exact h2 x hx)⟩
theorem ow_addr {w0 u : World} {B gN : Nat} {RP : World → Prop} {T : TypeId} {nc : Array Value} {rows : List ORow} (hX : OW w0 B RP gN T nc rows u) (i : Nat) {r : ORow} (hi : rows[i]? = some r) {A : Option Addr} {n c : Nat} (hv : r.v = .slice A n c) : ∀ x, A = some x → B ≤ x.block := by
  intro x hx
  have h := hX.own i r hi
  rw [hv] at h
  subst hx
  exact (own_lt h rfl).1
theorem trPost_some {f : Bool → Value} {v : Value} (hv : v = f true) {w u w5 : World} {d : Option Tr} {t : Tr} {B g2 : Nat} {A1 A2 : Option Addr} {P K c1 c2 : Nat} (hx : Ext w u) (hg : u.grownBy w5 (some g2)) (h2w : w.heap.size ≤ g2) (h2B : g2 < B) (hd : d = some t)
    (hN : TrAt u t A1 A2 P K c1 c2) (hf1 : ∀ x, A1 = some x → B ≤ x.block) (hf2 : ∀ x, A2 = some x → B ≤ x.block) :
    TrPost f d w (.returned (.tuple #[tra A1 P c1 A2 K c2, v])) w5 := by
  subst hd hv
  have hne : ∀ {A : Option Addr}, (∀ x, A = some x → B ≤ x.block) → ∀ x, A = some x → some x.block ≠ some g2 := fun h x hx e => by
    have := h x hx
    cases e
    omega
  exact ⟨A1, A2, P, K, c1, c2, rfl, hN.grown_old hg (hne hf1) (hne hf2), hx.grown_ hg (by intro k hk; cases hk; exact h2w)⟩
theorem take_two (h n : UInt8) (b : List UInt8) : PR.take ⟨h :: n :: b, false⟩ 2 = ([h, n], ⟨b, false⟩) := by
  unfold PR.take
  rw [if_neg (by simp; omega)]
  rfl
theorem take_few {bs : List UInt8} (h : bs.length < 2) : PR.take ⟨bs, false⟩ 2 = ([], PR.fail) := by
  unfold PR.take
  rw [if_pos]
  refine .inr (.inr ?_)
  show (bs.length : Int) < 2
  omega
theorem tOk_end {h : UInt8} {s : TSt} (he : s.r.end_ = false) : tOk h s = false := by
  unfold PR.end_ at he
  unfold tOk
  rw [he]
  rfl
theorem tOk_good {h : UInt8} {s : TSt} (he : Tr.good ⟨s.prs, s.kds⟩ = false) : tOk h s = false := by
  unfold tOk
  rw [he]
  simp

set_option maxRecDepth 50000 in
set_option maxHeartbeats 4000000 in
theorem getTree_few (A : Option Addr) (n c : Nat) (bs : List UInt8) (w : World) (hb : Cells w A (bv bs)) (hn : Hid (bs.length = n)) (hl : n ≤ 140737488351232) (hf : n < 2) :
    Calls Tryd.prog 82 #[.slice A n c] w fun e w' => TrPost fErr none w e w' := by
  have htk := fun g w' h' => rtake_calls g ⟨bs, false⟩ 2 w' h'
  rw [take_few (by rw [hn.out]; exact hf)] at htk
  go_enter Tryd.func82, Tryd.ntmps82
  go_wp2_with (first
    | (go_at_call 59; ((with_reducible refine (read_calls A n c bs _ (hb.ext ((Ext.refl _).alloc _)) hn.out hl).mono ?_); rintro e w1 ⟨gR, rfl, hgR, hR1, hx1⟩))
    | (go_at_call 60; ((with_reducible refine (htk gR _ (hR1.ext ((Ext.refl _).alloc _))).mono ?_); rintro e w2 ⟨rfl, hR2, ht2⟩; obtain ⟨hS, hl2R, hlRN', hlNB'⟩ := get_start hgR hR1 hx1 hR2 ht2))
    | (go_at_call 61; (have hgd := rgood_calls gR _ w2 hR2; (with_reducible refine hgd.mono ?_); rintro e w' ⟨rfl, rfl⟩))
    | (refine wpList_store_blk rfl 73 (.tmp 2) (.tmp 15) rfl rfl w.heap.size #[.slice none 0 0, .slice none 0 0] rfl rfl _ _ hS.rd.2 rfl (by kernel_rfl) (by simp [Value.oneCell']) ?_; intro w5 hb5 hg5))
  refine bodyPost_ret (results_row_tmp (P := Tryd.prog) (fn := Tryd.f82) rfl _ _ w.heap.size 73 #[.slice none 0 0, .slice none 0 0] _ rfl hb5 Tryd.underlying73 rfl (by kernel_rfl)) rfl ?_
  exact trPost_none rfl (hS.ext.grown_ hg5 (by intro k hk; cases hk; exact Nat.le_refl _)) rfl

set_option maxRecDepth 50000 in
set_option maxHeartbeats 16000000 in
theorem getTree_leaf (A : Option Addr) (n c : Nat) (n1 : UInt8) (b bs : List UInt8) (w : World) (hbs : Hid (bs = 1 :: n1 :: b)) (hb : Cells w A (bv bs)) (hn : Hid (bs.length = n)) (hl : n ≤ 140737488351232) (cnt : Nat) (hcnt : n1.toNat = cnt) :
    Calls Tryd.prog 82 #[.slice A n c] w fun e w' => TrPost fErr (decTB 1 n1 b) w e w' := by
  have hcn : cnt < 256 := by rw [← hcnt]; exact n1.toNat_lt
  have hr0 : (PR.mk b false).Ok := fun h => by cases h
  have hbl : b.length ≤ 140737488351232 := by have := hn.out; rw [hbs.out] at this; simp only [List.length_cons] at this; omega
  obtain ⟨r0, hr0e⟩ : ∃ r0, r0 = PR.mk b false := ⟨_, rfl⟩
  have htk := fun g w' h' => rtake_calls g ⟨bs, false⟩ 2 w' h'
  rw [hbs.out, take_two, ← hr0e] at htk
  rw [← hbs.out] at htk
  have hgd0 := fun g w' h' => rgood_calls g r0 w' h'
  rw [show r0.bad = false by rw [hr0e]] at hgd0
  rw [← hr0e] at hr0
  have HB := Lib.hid hr0
  have hsz : (bstr [1, n1]).size = 2 := bstr_size _
  have hget0 : ∀ h' : 0 < (bstr [1, n1]).size, (bstr [1, n1])[0]'h' = 1 := fun h' => bstr_get (bs := [1, n1]) (j := 0) (by show 0 < 2; decide) h'
  have hget1 : ∀ h' : 1 < (bstr [1, n1]).size, (bstr [1, n1])[1]'h' = n1 := fun h' => bstr_get (bs := [1, n1]) (j := 1) (by show 1 < 2; decide) h'
  have hdec : decTB 1 n1 b = if tOk 1 (tsteps true r0 cnt) then some ⟨(tsteps true r0 cnt).prs, (tsteps true r0 cnt).kds⟩ else none := by
    unfold decTB
    rw [hcnt, ← hr0e]
    rfl
  have hbl0 : r0.b.length ≤ 140737488351232 := by rw [hr0e]; exact hbl
  have HD := Lib.hid hdec
  clear hr0e hr0 hbl hdec
  generalize hdd : decTB 1 n1 b = dd at HD ⊢
  clear hdd
  go_enter Tryd.func82, Tryd.ntmps82
  go_upto_region 7 with (first
    | (go_at_call 59; ((with_reducible refine (read_calls A n c bs _ (hb.ext ((Ext.refl _).alloc _)) hn.out hl).mono ?_); rintro e w1 ⟨gR, rfl, hgR, hR1, hx1⟩))
    | (go_at_call 60; ((with_reducible refine (htk gR _ (hR1.ext ((Ext.refl _).alloc _))).mono ?_); rintro e w2 ⟨rfl, hR2, ht2⟩; obtain ⟨hS, hl2R, hlRN', hlNB'⟩ := get_start hgR hR1 hx1 hR2 ht2))
    | (go_at_call 61; (with_reducible refine (hgd0 gR _ hR2).mono ?_); rintro e w' ⟨rfl, rfl⟩))
  obtain ⟨B, hB⟩ : ∃ B, B = w2.heap.size := ⟨_, rfl⟩
  obtain ⟨gN, hgN⟩ : ∃ g, g = w1.heap.size := ⟨_, rfl⟩
  obtain ⟨g2, hg2⟩ : ∃ g, g = w.heap.size := ⟨_, rfl⟩
  have hl0B : w.heap.size ≤ B := by omega
  have hl0N : w.heap.size ≤ gN := by omega
  have hlRN : gR < gN := by omega
  have hlNB : gN < B := by omega
  have hlRB : gR < B := by omega
  have hl2B : g2 < B := by omega
  have hl2g : g2 < gR := by omega
  have hl2w : w.heap.size ≤ g2 := by omega
  have hl0R : w.heap.size ≤ gR := by omega
  rw [← hB, ← hgN, ← hg2] at hS
  rw [← hgN, ← hg2]
  clear hB hgN hg2 hlRN' hlNB' hl2R hR2 hR1 ht2 hx1 hgR htk hgd0
  go_loopg [18] cnt (fun gk i wr => ∃ (j : Nat) (D : TSt) (A1 : Option Addr) (c1 : Nat), i = .int .u8 j ∧ j + gk = cnt ∧ Hid (D = tsteps true r0 j) ∧ OW w B (fun u => Rdr u gR D.r ∧ Blk u g2 73 #[.slice none 0 0, .slice none 0 0]) gN 73 #[.slice A1 j c1, .slice none 0 0] [⟨65, 2, j, (D.prs.map prC).flatten, .slice A1 j c1⟩, ⟨77, 34, 0, [], .slice none 0 0⟩] wr)
  case atStart => exact ⟨0, tsteps true r0 0, none, 0, rfl, by omega, Lib.hid rfl, hS⟩
  case round =>
    obtain ⟨j, D, A1, c1, rfl, hjk, hD, hX0⟩ := hrel
    have hDok : D.r.Ok := by rw [hD.out]; exact tsteps_ok HB.out j
    by_cases hlt : j < cnt
    · obtain ⟨gk', rfl⟩ : ∃ k, gk = k + 1 := ⟨gk - 1, by omega⟩
      have hgd := rgood_calls gR _ wr hX0.rd.1
      cases hbad : D.r.bad with
      | true =>
        rw [hbad] at hgd
        have hall : (tsteps true r0 cnt).r = PR.fail := tsteps_bad HB.out (j := j) (by rw [← hD.out]; exact hbad) cnt (by omega)
        have hdn : dd = none := by
          rw [HD.out, tOk_end (by rw [hall]; rfl)]
          rfl
        have hend := rend_calls gR _ wr hX0.rd.1
        rw [show D.r.end_ = false by unfold PR.end_; rw [hbad]; rfl] at hend
        have hres := hX0.rd.2
        have hxe := hX0.ext
        clear hall hX0 hD hS hDok
        go_wp2_with (first
          | (go_at_call 61; ((with_reducible refine hgd.mono ?_); rintro e w' ⟨rfl, rfl⟩))
          | (go_at_call 65; ((with_reducible refine hend.mono ?_); rintro e w' ⟨rfl, rfl⟩))
          | (refine wpList_store_blk rfl 73 (.tmp 2) (.tmp 76) rfl rfl g2 #[.slice none 0 0, .slice none 0 0] rfl rfl _ _ hres rfl (by kernel_rfl) (by simp [Value.oneCell']) ?_; intro w5 hb5 hg5))
        refine bodyPost_ret (results_row_tmp (P := Tryd.prog) (fn := Tryd.f82) rfl _ _ g2 73 #[.slice none 0 0, .slice none 0 0] _ rfl hb5 Tryd.underlying73 rfl (by kernel_rfl)) rfl ?_
        exact trPost_none rfl (hxe.grown_ hg5 (by intro k hk; cases hk; exact hl2w)) hdn
      | false =>
        rw [hbad] at hgd
        obtain ⟨x1, q1, htx⟩ : ∃ x q, D.r.text 16 = (x, q) := ⟨_, _, rfl⟩
        have htc := fun w' h' => rtext_calls gR D.r 16 w' h' (by decide)
        rw [htx] at htc
        have hq1 : q1.Ok := by have := hDok.text 16; rw [htx] at this; exact this
        have Hq1 := Lib.hid hq1
        have Htx := Lib.hid htx
        clear hq1 htx
        go_upto_region 11 with (first
          | (go_at_call 61; ((with_reducible refine hgd.mono ?_); rintro e w' ⟨rfl, rfl⟩))
          | (go_at_call 63; ((with_reducible refine (htc _ hX0.rd.1).mono ?_); rintro e wt ⟨rfl, hrt, htt⟩; have hX1 := hX0.turn (RP' := fun u => Rdr u gR q1 ∧ Blk u g2 73 #[.slice none 0 0, .slice none 0 0]) htt ⟨hrt, hX0.rd.2.grown htt (by intro e; cases e; omega)⟩ (fun k hk => by cases hk; exact ⟨by omega, by omega, by omega⟩))))
        refine wp_region_opsC (CInv [28, 29, 30, 31, 32, 33, 34, 35, 36] _ [(0, 28, .pointer (some ⟨gN, 0, none⟩)), (1, 29, .slice A1 j c1), (2, 30, .string (bstr x1)), (3, 31, .pointer (some ⟨gR, 0, none⟩)), (5, 33, .agg (prC (bstr x1, bstr (q1.text 16).1)).toArray), (8, 36, .pointer (some ⟨gN, 0, none⟩))] [(4, some 32), (6, some 34), (7, some 35), (9, none)] (PushW (OW w B (fun u => Rdr u gR q1 ∧ Blk u g2 73 #[.slice none 0 0, .slice none 0 0]) gN 73 #[.slice A1 j c1, .slice none 0 0] [⟨65, 2, j, (D.prs.map prC).flatten, .slice A1 j c1⟩, ⟨77, 34, 0, [], .slice none 0 0⟩]) (OW w B (fun u => Rdr u gR (q1.text 16).2 ∧ Blk u g2 73 #[.slice none 0 0, .slice none 0 0]) gN 73 #[.slice A1 j c1, .slice none 0 0] [⟨65, 2, j, (D.prs.map prC).flatten, .slice A1 j c1⟩, ⟨77, 34, 0, [], .slice none 0 0⟩]) ((Value.string (bstr (q1.text 16).1))) (prC (bstr x1, bstr (q1.text 16).1)) (fun v => OW w B (fun u => Rdr u gR (q1.text 16).2 ∧ Blk u g2 73 #[.slice none 0 0, .slice none 0 0]) gN 73 #[.slice A1 j c1, .slice none 0 0] [⟨65, 2, j + 1, (D.prs.map prC).flatten ++ (prC (bstr x1, bstr (q1.text 16).1)), v⟩, ⟨77, 34, 0, [], .slice none 0 0⟩]) (fun v => OW w B (fun u => Rdr u gR (q1.text 16).2 ∧ Blk u g2 73 #[.slice none 0 0, .slice none 0 0]) gN 73 #[v, .slice none 0 0] [⟨65, 2, j + 1, (D.prs.map prC).flatten ++ (prC (bstr x1, bstr (q1.text 16).1)), v⟩, ⟨77, 34, 0, [], .slice none 0 0⟩]))) (by kernel_rfl) (by kernel_rfl) (CInv.start (OW.more hX1 (get_stays hlRB hl2B) ((Ext.refl _).drew))) ?_ ?_
        · refine ⟨?o0, ?o1, ?o2, ?o3, ?o4, ?o5, ?o6, ?o7, ?o8, ?o9, trivial⟩
          case o0 =>
            intro f a u h hfi hp hq hcl
            have q5 : a.tmps[5]?.getD undef = .pointer (some ⟨gN, 0, none⟩) := h.agree.att (by decide)
            exact h.yield rfl rfl 28 rfl (by change 28 < 78; decide) rfl _ rfl (by go_simp)
          case o1 =>
            intro f a u h hfi hp hq hcl
            have q28 := h.att 0 rfl (pre_of hp 0 rfl)
            obtain ⟨xs, hx, hl⟩ := h.before 2 rfl (hq 7 _ rfl rfl)
            have hN := PushW.ahead (N := fun u => Blk u gN 73 #[.slice A1 j c1, .slice none 0 0]) hx (by omega) (fun _ h => h.nod) (fun _ h => h.nod) (fun _ _ h => h.nod)
            have c1 : u.cell? ⟨gN, 0, none⟩ = some (.slice A1 j c1) := hN.cell 0
            clear hN hx
            exact h.yield rfl rfl 29 rfl (by change 29 < 78; decide) rfl _ rfl (by go_simp)
          case o2 =>
            intro f a u h hfi hp hq hcl
            have q7 : a.tmps[7]?.getD undef = .string (bstr x1) := h.agree.att (by decide)
            exact h.yield rfl rfl 30 rfl (by change 30 < 78; decide) rfl _ rfl (by go_simp)
          case o3 =>
            intro f a u h hfi hp hq hcl
            have q4 : a.tmps[4]?.getD undef = .pointer (some ⟨gR, 0, none⟩) := h.agree.att (by decide)
            exact h.yield rfl rfl 31 rfl (by change 31 < 78; decide) rfl _ rfl (by go_simp)
          case o4 =>
            intro f a u h hfi hp hq hcl
            refine h.link hfi rfl rfl 0 _ rfl rfl (fun t ht => by cases ht; change 32 < 78; decide) rfl (fun k c d' hk hc => by omega) ?_
            intro xs hl hX hv
            obtain rfl : xs = [] := List.eq_nil_of_length_eq_zero hl
            have hX : OW w B (fun u => Rdr u gR q1 ∧ Blk u g2 73 #[.slice none 0 0, .slice none 0 0]) gN 73 #[.slice A1 j c1, .slice none 0 0] [⟨65, 2, j, (D.prs.map prC).flatten, .slice A1 j c1⟩, ⟨77, 34, 0, [], .slice none 0 0⟩] u := hX
            refine wp_call 63 #[.tmp 31, .const (.int .i64 16)] #[121, 3] _ rfl (by kernel_rfl) (by rw [arr2, h.at_ 3 rfl (pre_of hp 3 rfl), show a.eval (.const (.int .i64 16)) = .int .i64 16 from rfl]) (Calls.mono (rtext_calls gR q1 16 _ hX.rd.1 (by omega)) ?_)
            rintro e u' ⟨rfl, hr1, ht1⟩
            exact ⟨_, rfl, _, rfl, rfl, hX.turn ht1 ⟨hr1, hX.rd.2.grown ht1 (by intro e; cases e; omega)⟩ (fun k hk => by cases hk; exact ⟨by omega, by omega, by omega⟩)⟩
          case o5 =>
            intro f a u h hfi hp hq hcl
            have q30 := h.att 2 rfl (pre_of hp 2 rfl)
            obtain ⟨xs, hx, hl, _, e32⟩ := h.got 0 rfl (pre_of hp 4 rfl)
            exact h.yield rfl rfl 33 rfl (by change 33 < 78; decide) rfl _ rfl (run_of_sem (exec_build rfl (by rw [arr2]; simp only [h.at_ 2 rfl (pre_of hp 2 rfl), show a.eval (.tmp 32) = _ from e32.trans (PushW.first hx hl)])) (build_pair _ _ _))
          case o6 =>
            intro f a u h hfi hp hq hcl
            refine h.link hfi rfl rfl 1 _ rfl rfl (fun t ht => by cases ht; change 34 < 78; decide) rfl (fun k c d' hk hc => by (have hk0 : k = 0 := (by omega)); subst hk0; cases hc; exact (pre_cl hcl rfl (pre_of hp 5 rfl) 4 rfl)) ?_
            intro xs hl hX hv
            obtain ⟨s, rfl⟩ := len1 hl
            obtain ⟨hs, hX⟩ : s = _ ∧ OW w B (fun u => Rdr u gR (q1.text 16).2 ∧ Blk u g2 73 #[.slice none 0 0, .slice none 0 0]) gN 73 #[.slice A1 j c1, .slice none 0 0] [⟨65, 2, j, (D.prs.map prC).flatten, .slice A1 j c1⟩, ⟨77, 34, 0, [], .slice none 0 0⟩] u := hX
            have e33 := h.at_ 4 rfl (pre_of hp 5 rfl)
            refine wp_val (exec_buildSlice rfl (by rw [arr1]; simp only [show a.eval (.tmp 33) = _ from e33]; rfl)) (lit1_pair _ _ _) ?_
            exact ⟨_, rfl, hs, ⟨_, rfl, Cells.lit rfl (prC (bstr x1, bstr (q1.text 16).1)) _ _⟩, hX.more (get_stays hlRB hl2B) ((Ext.refl _).alloc _)⟩
          case o7 =>
            intro f a u h hfi hp hq hcl
            refine h.link hfi rfl rfl 2 _ rfl rfl (fun t ht => by cases ht; change 35 < 78; decide) rfl (fun k c d' hk hc => by (have hk0 : k = 1 := (by omega)); subst hk0; cases hc; exact (pre_of hp 6 rfl)) ?_
            intro xs hl hX hv
            obtain ⟨s, l, rfl⟩ := len2 hl
            obtain ⟨hs, ⟨g, rfl, hc⟩, hX⟩ : s = _ ∧ (∃ g, l = _ ∧ _) ∧ OW w B (fun u => Rdr u gR (q1.text 16).2 ∧ Blk u g2 73 #[.slice none 0 0, .slice none 0 0]) gN 73 #[.slice A1 j c1, .slice none 0 0] [⟨65, 2, j, (D.prs.map prC).flatten, .slice A1 j c1⟩, ⟨77, 34, 0, [], .slice none 0 0⟩] u := hX
            have el := hv 1 _ _ rfl (by decide)
            refine wp_append u (.tmp 29) (.tmp 34) 22 rfl B 65 (.agg #[.string ByteArray.empty, .string ByteArray.empty]) 2 32 Tryd.underlying22 (by kernel_rfl) rfl (by decide) _ j _ (h.at_ 1 rfl (pre_of hp 1 rfl)) (hX.own 0 _ rfl) (some ⟨g, 0, none⟩) 1 1 (prC (bstr x1, bstr (q1.text 16).1)) el rfl hc (prC_one _) (by simp only [maxLen]; omega) (by omega) hX.hB ?_
            intro v' u' ho hg hf
            exact ⟨_, rfl, hs, hX.app (get_stays hlRB hl2B) hlNB hl0B (i := 0) rfl ho hg hf⟩
          case o8 =>
            intro f a u h hfi hp hq hcl
            have q5 : a.tmps[5]?.getD undef = .pointer (some ⟨gN, 0, none⟩) := h.agree.att (by decide)
            exact h.yield rfl rfl 36 rfl (by change 36 < 78; decide) rfl _ rfl (by go_simp)
          case o9 =>
            intro f a u h hfi hp hq hcl
            refine h.link hfi rfl rfl 3 _ rfl rfl (fun t ht => by cases ht) rfl (fun k c d' hk hc => by (have hk0 : k = 2 := (by omega)); subst hk0; cases hc; exact (pre_of hp 7 rfl)) ?_
            intro xs hl hX hv
            obtain ⟨s, l, v, rfl⟩ := len3 hl
            obtain ⟨hs, hX⟩ : s = _ ∧ OW w B (fun u => Rdr u gR (q1.text 16).2 ∧ Blk u g2 73 #[.slice none 0 0, .slice none 0 0]) gN 73 #[.slice A1 j c1, .slice none 0 0] [⟨65, 2, j + 1, (D.prs.map prC).flatten ++ (prC (bstr x1, bstr (q1.text 16).1)), v⟩, ⟨77, 34, 0, [], .slice none 0 0⟩] u := hX
            have ev := hv 2 _ _ rfl (by decide)
            obtain ⟨Av, cv, hvv, _, _, _⟩ := own_form (hX.own 0 _ rfl) (by show 0 < 2; decide)
            have hvv : v = .slice Av (j + 1) cv := hvv
            subst hvv
            have c1 : u.cell? ⟨gN, 0, none⟩ = some (.slice A1 j c1) := hX.nod.cell 0
            have f1 := hX.nod.frozen 0
            refine wp_store_cell 22 (.tmp 36) (.tmp 35) rfl rfl (h.at_ 5 rfl (pre_of hp 8 rfl)) ev (st_pairs _ _ _ _ _ _ c1 f1) ?_
            exact ⟨.tuple #[], rfl, hs, hX.sto (grown_set u gN 0 _) (blk_set hX.nod 0 _) (get_after hX.rd hlRN (by omega) _ _) hlNB hl0N⟩
        · intro f a u h hall hfar
          obtain ⟨xs, hxl, hX, hv⟩ := h.done (by intro c hc; simp only [List.mem_cons, List.not_mem_nil, or_false] at hc; rcases hc with rfl | rfl | rfl | rfl; all_goals exact hall _ (by decide))
          obtain ⟨s, l, v, t, rfl⟩ := len4 hxl
          have hX : OW w B (fun u => Rdr u gR (q1.text 16).2 ∧ Blk u g2 73 #[.slice none 0 0, .slice none 0 0]) gN 73 #[v, .slice none 0 0] [⟨65, 2, j + 1, (D.prs.map prC).flatten ++ (prC (bstr x1, bstr (q1.text 16).1)), v⟩, ⟨77, 34, 0, [], .slice none 0 0⟩] u := hX.2
          have hag := h.agree.out
          simp only [List.foldl_cons, List.foldl_nil, Act.put, List.setIfInBounds_toArray, List.set_cons_zero, List.set_cons_succ] at hag
          generalize a.eval (.tmp 28) = y28 at hag
          generalize a.eval (.tmp 29) = y29 at hag
          generalize a.eval (.tmp 30) = y30 at hag
          generalize a.eval (.tmp 31) = y31 at hag
          generalize a.eval (.tmp 32) = y32 at hag
          generalize a.eval (.tmp 33) = y33 at hag
          generalize a.eval (.tmp 34) = y34 at hag
          generalize a.eval (.tmp 35) = y35 at hag
          generalize a.eval (.tmp 36) = y36 at hag
          clear h hall hfar hxl hv
          subst hag
          obtain ⟨Av1, cv1, hvv, lv, mv, hcv⟩ := own_form (hX.own 0 _ rfl) (by show 0 < 2; decide)
          have hvv : v = .slice Av1 (j + 1) cv1 := hvv
          subst hvv
          clear lv mv hcv
          go_wp2
          go_roundg gk'
          case measure => omega
          case rel =>
            rw [prs_snoc] at hX
            exact ⟨j + 1, ⟨D.prs ++ [(bstr x1, bstr (q1.text 16).1)], D.kds, (q1.text 16).2⟩, Av1, cv1, by go_num, by omega, Lib.hid (by show _ = tstep true (tsteps true r0 j); rw [← hD.out]; first | (simp only [tstep, Htx.out, if_true, Bool.false_eq_true, if_false]; done) | (simp only [tstep, Htx.out]; try rfl)), hX⟩
    · obtain rfl : j = cnt := by omega
      clear hlt hS
      have hend := rend_calls gR _ wr hX0.rd.1
      obtain ⟨hlp, hlk⟩ := tsteps_len true r0 j
      obtain ⟨hsp, hsk, _⟩ := tsteps_sizes true r0 140737488351232 hbl0 j
      have HDD := Lib.hid HD.out
      rw [← hD.out] at hlp hlk hsp hsk HDD
      simp only [if_true, if_false, Bool.false_eq_true] at hlp hlk
      obtain ⟨t, ht⟩ : ∃ t : Tr, t = ⟨D.prs, D.kds⟩ := ⟨_, rfl⟩
      have hemp : D.kds = [] := List.eq_nil_of_length_eq_zero hlk
      have hNd : TrAt wr t A1 none j 0 c1 0 := by
        subst ht
        refine get_fin _ (nc := #[.slice A1 j c1, .slice none 0 0]) (by rw [hemp]; exact hX0) hlp hlk (by omega) (by omega) hsp hsk
      have hf1 := ow_addr hX0 0 rfl rfl
      have hok : tOk 1 D = (D.r.end_ && (t.good && (!(1 == 2 && D.kds.length == 0) && (1 == 1 || 1 == 2)))) := by rw [ht]; rfl
      have hdd : dd = if tOk 1 D then some t else none := by rw [HDD.out, ht]
      have HOK := Lib.hid hok
      have HDd := Lib.hid hdd
      have HNd := Lib.hid hNd
      have hN := hX0.nod
      have hres := hX0.rd.2
      have hxe := hX0.ext
      have HN := Lib.hid hN
      have HLK := Lib.hid hlk
      clear hlp hlk hsp hsk hNd ht hX0 hN hD hok hdd hemp hDok hjk HDD
      obtain ⟨c0, c1'⟩ := tree_cells HN.out
      cases hbad : D.r.end_ with
      | false =>
        rw [hbad] at hend
        have hdn : dd = none := by rw [HDd.out, HOK.out, hbad]; rfl
        go_wp2_with (first
          | (go_at_call 65; ((with_reducible refine hend.mono ?_); rintro e w' ⟨rfl, rfl⟩))
          | (refine wpList_store_blk rfl 73 (.tmp 2) (.tmp 76) rfl rfl g2 #[.slice none 0 0, .slice none 0 0] rfl rfl _ _ hres rfl (by kernel_rfl) (by simp [Value.oneCell']) ?_; intro w5 hb5 hg5))
        refine bodyPost_ret (results_row_tmp (P := Tryd.prog) (fn := Tryd.f82) rfl _ _ g2 73 #[.slice none 0 0, .slice none 0 0] _ rfl hb5 Tryd.underlying73 rfl (by kernel_rfl)) rfl ?_
        exact trPost_none rfl (hxe.grown_ hg5 (by intro k hk; cases hk; exact hl2w)) hdn
      | true =>
        rw [hbad] at hend
        have hgc := goodTree_calls t A1 none j 0 c1 0 wr HNd.out
        cases hg : t.good with
        | false =>
          rw [hg] at hgc
          have hdn : dd = none := by rw [HDd.out, HOK.out, hbad, hg]; rfl
          go_wp2_with (first
            | (go_at_call 65; ((with_reducible refine hend.mono ?_); rintro e w' ⟨rfl, rfl⟩))
            | (go_at_call 83; ((with_reducible refine hgc.mono ?_); rintro e w4 ⟨rfl, hx4⟩; have hres4 := hres.ext hx4; clear c0 c1'; obtain ⟨c0, c1'⟩ := tree_cells (HN.out.ext hx4)))
            | (refine wpList_store_blk rfl 73 (.tmp 2) (.tmp 76) rfl rfl g2 #[.slice none 0 0, .slice none 0 0] rfl rfl _ _ hres4 rfl (by kernel_rfl) (by simp [Value.oneCell']) ?_; intro w5 hb5 hg5))
          refine bodyPost_ret (results_row_tmp (P := Tryd.prog) (fn := Tryd.f82) rfl _ _ g2 73 #[.slice none 0 0, .slice none 0 0] _ rfl hb5 Tryd.underlying73 rfl (by kernel_rfl)) rfl ?_
          exact trPost_none rfl ((hxe.trans hx4).grown_ hg5 (by intro k hk; cases hk; exact hl2w)) hdn
        | true =>
          rw [hg] at hgc
          have hds : dd = some t := by rw [HDd.out, HOK.out, hbad, hg]; rfl
          go_wp2_with (first
            | (go_at_call 65; ((with_reducible refine hend.mono ?_); rintro e w' ⟨rfl, rfl⟩))
            | (go_at_call 83; ((with_reducible refine hgc.mono ?_); rintro e w4 ⟨rfl, hx4⟩; have hres4 := hres.ext hx4; clear c0 c1'; obtain ⟨c0, c1'⟩ := tree_cells (HN.out.ext hx4)))
            | (refine wpList_store_blk rfl 73 (.tmp 2) (.tmp 77) rfl rfl g2 #[.slice A1 j c1, .slice none 0 0] rfl rfl _ _ hres4 rfl (by kernel_rfl) (by simp [Value.oneCell']) ?_; intro w5 hb5 hg5))
          refine bodyPost_ret (results_row_tmp (P := Tryd.prog) (fn := Tryd.f82) rfl _ _ g2 73 #[.slice A1 j c1, .slice none 0 0] _ rfl hb5 Tryd.underlying73 rfl (by kernel_rfl)) rfl ?_
          exact trPost_some rfl (hxe.trans hx4) hg5 hl2w hl2B hds (HNd.out.ext hx4) hf1 (fun x h => by cases h)

set_option maxRecDepth 50000 in
set_option maxHeartbeats 16000000 in
theorem getTree_kids (A : Option Addr) (n c : Nat) (h n1 : UInt8) (b bs : List UInt8) (w : World) (hbs : Hid (bs = h :: n1 :: b)) (hb : Cells w A (bv bs)) (hn : Hid (bs.length = n)) (hl : n ≤ 140737488351232) (cnt : Nat) (hcnt : n1.toNat = cnt) (h1 : ¬ (h.toNat : Int) = 1) :
    Calls Tryd.prog 82 #[.slice A n c] w fun e w' => TrPost fErr (decTB h n1 b) w e w' := by
  have hcn : cnt < 256 := by rw [← hcnt]; exact n1.toNat_lt
  have hr0 : (PR.mk b false).Ok := fun h => by cases h
  have hbl : b.length ≤ 140737488351232 := by have := hn.out; rw [hbs.out] at this; simp only [List.length_cons] at this; omega
  obtain ⟨r0, hr0e⟩ : ∃ r0, r0 = PR.mk b false := ⟨_, rfl⟩
  have htk := fun g w' h' => rtake_calls g ⟨bs, false⟩ 2 w' h'
  rw [hbs.out, take_two, ← hr0e] at htk
  rw [← hbs.out] at htk
  have hgd0 := fun g w' h' => rgood_calls g r0 w' h'
  rw [show r0.bad = false by rw [hr0e]] at hgd0
  rw [← hr0e] at hr0
  have HB := Lib.hid hr0
  have hsz : (bstr [h, n1]).size = 2 := bstr_size _
  have hget0 : ∀ h' : 0 < (bstr [h, n1]).size, (bstr [h, n1])[0]'h' = h := fun h' => bstr_get (bs := [h, n1]) (j := 0) (by show 0 < 2; decide) h'
  have hget1 : ∀ h' : 1 < (bstr [h, n1]).size, (bstr [h, n1])[1]'h' = n1 := fun h' => bstr_get (bs := [h, n1]) (j := 1) (by show 1 < 2; decide) h'
  have hdec : decTB h n1 b = if tOk h (tsteps false r0 cnt) then some ⟨(tsteps false r0 cnt).prs, (tsteps false r0 cnt).kds⟩ else none := by
    unfold decTB
    rw [hcnt, ← hr0e, show (h == 1) = false from by rw [beq_eq_false_iff_ne]; rintro rfl; exact h1 rfl]
  have hbl0 : r0.b.length ≤ 140737488351232 := by rw [hr0e]; exact hbl
  have HD := Lib.hid hdec
  clear hr0e hr0 hbl hdec
  generalize hdd : decTB h n1 b = dd at HD ⊢
  clear hdd
  go_enter Tryd.func82, Tryd.ntmps82
  go_upto_region 7 with (first
    | (go_at_call 59; ((with_reducible refine (read_calls A n c bs _ (hb.ext ((Ext.refl _).alloc _)) hn.out hl).mono ?_); rintro e w1 ⟨gR, rfl, hgR, hR1, hx1⟩))
    | (go_at_call 60; ((with_reducible refine (htk gR _ (hR1.ext ((Ext.refl _).alloc _))).mono ?_); rintro e w2 ⟨rfl, hR2, ht2⟩; obtain ⟨hS, hl2R, hlRN', hlNB'⟩ := get_start hgR hR1 hx1 hR2 ht2))
    | (go_at_call 61; (with_reducible refine (hgd0 gR _ hR2).mono ?_); rintro e w' ⟨rfl, rfl⟩))
  obtain ⟨B, hB⟩ : ∃ B, B = w2.heap.size := ⟨_, rfl⟩
  obtain ⟨gN, hgN⟩ : ∃ g, g = w1.heap.size := ⟨_, rfl⟩
  obtain ⟨g2, hg2⟩ : ∃ g, g = w.heap.size := ⟨_, rfl⟩
  have hl0B : w.heap.size ≤ B := by omega
  have hl0N : w.heap.size ≤ gN := by omega
  have hlRN : gR < gN := by omega
  have hlNB : gN < B := by omega
  have hlRB : gR < B := by omega
  have hl2B : g2 < B := by omega
  have hl2g : g2 < gR := by omega
  have hl2w : w.heap.size ≤ g2 := by omega
  have hl0R : w.heap.size ≤ gR := by omega
  rw [← hB, ← hgN, ← hg2] at hS
  rw [← hgN, ← hg2]
  clear hB hgN hg2 hlRN' hlNB' hl2R hR2 hR1 ht2 hx1 hgR htk hgd0
  go_loopg [18] cnt (fun gk i wr => ∃ (j : Nat) (D : TSt) (A1 : Option Addr) (c1 : Nat), i = .int .u8 j ∧ j + gk = cnt ∧ Hid (D = tsteps false r0 j) ∧ OW w B (fun u => Rdr u gR D.r ∧ Blk u g2 73 #[.slice none 0 0, .slice none 0 0]) gN 73 #[.slice none 0 0, .slice A1 j c1] [⟨65, 2, 0, [], .slice none 0 0⟩, ⟨77, 34, j, (D.kds.map kdC).flatten, .slice A1 j c1⟩] wr)
  case atStart => exact ⟨0, tsteps false r0 0, none, 0, rfl, by omega, Lib.hid rfl, hS⟩
  case round =>
    obtain ⟨j, D, A1, c1, rfl, hjk, hD, hX0⟩ := hrel
    have hDok : D.r.Ok := by rw [hD.out]; exact tsteps_ok HB.out j
    by_cases hlt : j < cnt
    · obtain ⟨gk', rfl⟩ : ∃ k, gk = k + 1 := ⟨gk - 1, by omega⟩
      have hgd := rgood_calls gR _ wr hX0.rd.1
      cases hbad : D.r.bad with
      | true =>
        rw [hbad] at hgd
        have hall : (tsteps false r0 cnt).r = PR.fail := tsteps_bad HB.out (j := j) (by rw [← hD.out]; exact hbad) cnt (by omega)
        have hdn : dd = none := by
          rw [HD.out, tOk_end (by rw [hall]; rfl)]
          rfl
        have hend := rend_calls gR _ wr hX0.rd.1
        rw [show D.r.end_ = false by unfold PR.end_; rw [hbad]; rfl] at hend
        have hres := hX0.rd.2
        have hxe := hX0.ext
        clear hall hX0 hD hS hDok
        go_wp2_with (first
          | (go_at_call 61; ((with_reducible refine hgd.mono ?_); rintro e w' ⟨rfl, rfl⟩))
          | (go_at_call 65; ((with_reducible refine hend.mono ?_); rintro e w' ⟨rfl, rfl⟩))
          | (refine wpList_store_blk rfl 73 (.tmp 2) (.tmp 76) rfl rfl g2 #[.slice none 0 0, .slice none 0 0] rfl rfl _ _ hres rfl (by kernel_rfl) (by simp [Value.oneCell']) ?_; intro w5 hb5 hg5))
        refine bodyPost_ret (results_row_tmp (P := Tryd.prog) (fn := Tryd.f82) rfl _ _ g2 73 #[.slice none 0 0, .slice none 0 0] _ rfl hb5 Tryd.underlying73 rfl (by kernel_rfl)) rfl ?_
        exact trPost_none rfl (hxe.grown_ hg5 (by intro k hk; cases hk; exact hl2w)) hdn
      | false =>
        rw [hbad] at hgd
        obtain ⟨x1, q1, htx⟩ : ∃ x q, D.r.text 16 = (x, q) := ⟨_, _, rfl⟩
        have htc := fun w' h' => rtext_calls gR D.r 16 w' h' (by decide)
        rw [htx] at htc
        have hq1 : q1.Ok := by have := hDok.text 16; rw [htx] at this; exact this
        have Hq1 := Lib.hid hq1
        have Htx := Lib.hid htx
        clear hq1 htx
        go_upto_region 12 with (first
          | (go_at_call 61; ((with_reducible refine hgd.mono ?_); rintro e w' ⟨rfl, rfl⟩))
          | (go_at_call 63; ((with_reducible refine (htc _ hX0.rd.1).mono ?_); rintro e wt ⟨rfl, hrt, htt⟩; have hX1 := hX0.turn (RP' := fun u => Rdr u gR q1 ∧ Blk u g2 73 #[.slice none 0 0, .slice none 0 0]) htt ⟨hrt, hX0.rd.2.grown htt (by intro e; cases e; omega)⟩ (fun k hk => by cases hk; exact ⟨by omega, by omega, by omega⟩))))
        refine wp_region_opsC (CInv [37, 38, 39, 40, 41, 42, 43, 44, 45] _ [(0, 37, .pointer (some ⟨gN, 1, none⟩)), (1, 38, .slice A1 j c1), (2, 39, .string (bstr x1)), (3, 40, .pointer (some ⟨gR, 0, none⟩)), (5, 42, .agg (kdC (bstr x1, (pid q1).1)).toArray), (8, 45, .pointer (some ⟨gN, 1, none⟩))] [(4, some 41), (6, some 43), (7, some 44), (9, none)] (PushW (OW w B (fun u => Rdr u gR q1 ∧ Blk u g2 73 #[.slice none 0 0, .slice none 0 0]) gN 73 #[.slice none 0 0, .slice A1 j c1] [⟨65, 2, 0, [], .slice none 0 0⟩, ⟨77, 34, j, (D.kds.map kdC).flatten, .slice A1 j c1⟩]) (OW w B (fun u => Rdr u gR (pid q1).2 ∧ Blk u g2 73 #[.slice none 0 0, .slice none 0 0]) gN 73 #[.slice none 0 0, .slice A1 j c1] [⟨65, 2, 0, [], .slice none 0 0⟩, ⟨77, 34, j, (D.kds.map kdC).flatten, .slice A1 j c1⟩]) ((idv (pid q1).1)) (kdC (bstr x1, (pid q1).1)) (fun v => OW w B (fun u => Rdr u gR (pid q1).2 ∧ Blk u g2 73 #[.slice none 0 0, .slice none 0 0]) gN 73 #[.slice none 0 0, .slice A1 j c1] [⟨65, 2, 0, [], .slice none 0 0⟩, ⟨77, 34, j + 1, (D.kds.map kdC).flatten ++ (kdC (bstr x1, (pid q1).1)), v⟩]) (fun v => OW w B (fun u => Rdr u gR (pid q1).2 ∧ Blk u g2 73 #[.slice none 0 0, .slice none 0 0]) gN 73 #[.slice none 0 0, v] [⟨65, 2, 0, [], .slice none 0 0⟩, ⟨77, 34, j + 1, (D.kds.map kdC).flatten ++ (kdC (bstr x1, (pid q1).1)), v⟩]))) (by kernel_rfl) (by kernel_rfl) (CInv.start (OW.more hX1 (get_stays hlRB hl2B) ((Ext.refl _).drew))) ?_ ?_
        · refine ⟨?o0, ?o1, ?o2, ?o3, ?o4, ?o5, ?o6, ?o7, ?o8, ?o9, trivial⟩
          case o0 =>
            intro f a u h hfi hp hq hcl
            have q5 : a.tmps[5]?.getD undef = .pointer (some ⟨gN, 0, none⟩) := h.agree.att (by decide)
            exact h.yield rfl rfl 37 rfl (by change 37 < 78; decide) rfl _ rfl (by go_simp)
          case o1 =>
            intro f a u h hfi hp hq hcl
            have q37 := h.att 0 rfl (pre_of hp 0 rfl)
            obtain ⟨xs, hx, hl⟩ := h.before 2 rfl (hq 7 _ rfl rfl)
            have hN := PushW.ahead (N := fun u => Blk u gN 73 #[.slice none 0 0, .slice A1 j c1]) hx (by omega) (fun _ h => h.nod) (fun _ h => h.nod) (fun _ _ h => h.nod)
            have c1 : u.cell? ⟨gN, 1, none⟩ = some (.slice A1 j c1) := hN.cell 1
            clear hN hx
            exact h.yield rfl rfl 38 rfl (by change 38 < 78; decide) rfl _ rfl (by go_simp)
          case o2 =>
            intro f a u h hfi hp hq hcl
            have q7 : a.tmps[7]?.getD undef = .string (bstr x1) := h.agree.att (by decide)
            exact h.yield rfl rfl 39 rfl (by change 39 < 78; decide) rfl _ rfl (by go_simp)
          case o3 =>
            intro f a u h hfi hp hq hcl
            have q4 : a.tmps[4]?.getD undef = .pointer (some ⟨gR, 0, none⟩) := h.agree.att (by decide)
            exact h.yield rfl rfl 40 rfl (by change 40 < 78; decide) rfl _ rfl (by go_simp)
          case o4 =>
            intro f a u h hfi hp hq hcl
            refine h.link hfi rfl rfl 0 _ rfl rfl (fun t ht => by cases ht; change 41 < 78; decide) rfl (fun k c d' hk hc => by omega) ?_
            intro xs hl hX hv
            obtain rfl : xs = [] := List.eq_nil_of_length_eq_zero hl
            have hX : OW w B (fun u => Rdr u gR q1 ∧ Blk u g2 73 #[.slice none 0 0, .slice none 0 0]) gN 73 #[.slice none 0 0, .slice A1 j c1] [⟨65, 2, 0, [], .slice none 0 0⟩, ⟨77, 34, j, (D.kds.map kdC).flatten, .slice A1 j c1⟩] u := hX
            refine wp_call 62 #[.tmp 40] #[121] _ rfl (by kernel_rfl) (by rw [arr1, h.at_ 3 rfl (pre_of hp 3 rfl)]) (Calls.mono (oid_calls gR q1 _ hX.rd.1 Hq1.out) ?_)
            rintro e u' ⟨rfl, hr1, ht1⟩
            exact ⟨_, rfl, _, rfl, rfl, hX.turn ht1 ⟨hr1, hX.rd.2.grown ht1 (by intro e; cases e; omega)⟩ (fun k hk => by cases hk; exact ⟨by omega, by omega, by omega⟩)⟩
          case o5 =>
            intro f a u h hfi hp hq hcl
            have q39 := h.att 2 rfl (pre_of hp 2 rfl)
            obtain ⟨xs, hx, hl, _, e41⟩ := h.got 0 rfl (pre_of hp 4 rfl)
            exact h.yield rfl rfl 42 rfl (by change 42 < 78; decide) rfl _ rfl (run_of_sem (exec_build rfl (by rw [arr2]; simp only [h.at_ 2 rfl (pre_of hp 2 rfl), show a.eval (.tmp 41) = _ from e41.trans (PushW.first hx hl)]; rfl)) (build_kid _ _ _ (pid_len _)))
          case o6 =>
            intro f a u h hfi hp hq hcl
            refine h.link hfi rfl rfl 1 _ rfl rfl (fun t ht => by cases ht; change 43 < 78; decide) rfl (fun k c d' hk hc => by (have hk0 : k = 0 := (by omega)); subst hk0; cases hc; exact (pre_cl hcl rfl (pre_of hp 5 rfl) 4 rfl)) ?_
            intro xs hl hX hv
            obtain ⟨s, rfl⟩ := len1 hl
            obtain ⟨hs, hX⟩ : s = _ ∧ OW w B (fun u => Rdr u gR (pid q1).2 ∧ Blk u g2 73 #[.slice none 0 0, .slice none 0 0]) gN 73 #[.slice none 0 0, .slice A1 j c1] [⟨65, 2, 0, [], .slice none 0 0⟩, ⟨77, 34, j, (D.kds.map kdC).flatten, .slice A1 j c1⟩] u := hX
            have e42 := h.at_ 4 rfl (pre_of hp 5 rfl)
            refine wp_val (exec_buildSlice rfl (by rw [arr1]; simp only [show a.eval (.tmp 42) = _ from e42]; rfl)) (lit1_kid _ _ _ (pid_len _)) ?_
            exact ⟨_, rfl, hs, ⟨_, rfl, Cells.lit rfl (kdC (bstr x1, (pid q1).1)) _ _⟩, hX.more (get_stays hlRB hl2B) ((Ext.refl _).alloc _)⟩
          case o7 =>
            intro f a u h hfi hp hq hcl
            refine h.link hfi rfl rfl 2 _ rfl rfl (fun t ht => by cases ht; change 44 < 78; decide) rfl (fun k c d' hk hc => by (have hk0 : k = 1 := (by omega)); subst hk0; cases hc; exact (pre_of hp 6 rfl)) ?_
            intro xs hl hX hv
            obtain ⟨s, l, rfl⟩ := len2 hl
            obtain ⟨hs, ⟨g, rfl, hc⟩, hX⟩ : s = _ ∧ (∃ g, l = _ ∧ _) ∧ OW w B (fun u => Rdr u gR (pid q1).2 ∧ Blk u g2 73 #[.slice none 0 0, .slice none 0 0]) gN 73 #[.slice none 0 0, .slice A1 j c1] [⟨65, 2, 0, [], .slice none 0 0⟩, ⟨77, 34, j, (D.kds.map kdC).flatten, .slice A1 j c1⟩] u := hX
            have el := hv 1 _ _ rfl (by decide)
            refine wp_append u (.tmp 38) (.tmp 43) 71 rfl B 77 (.agg (.string ByteArray.empty :: bv idNone).toArray) 34 56 Tryd.underlying71 (by kernel_rfl) rfl (by decide) _ j _ (h.at_ 1 rfl (pre_of hp 1 rfl)) (hX.own 1 _ rfl) (some ⟨g, 0, none⟩) 1 1 (kdC (bstr x1, (pid q1).1)) el (kdC_len (pid_len _)) hc (kdC_one _) (by simp only [maxLen]; omega) (by omega) hX.hB ?_
            intro v' u' ho hg hf
            exact ⟨_, rfl, hs, hX.app (get_stays hlRB hl2B) hlNB hl0B (i := 1) rfl ho hg hf⟩
          case o8 =>
            intro f a u h hfi hp hq hcl
            have q5 : a.tmps[5]?.getD undef = .pointer (some ⟨gN, 0, none⟩) := h.agree.att (by decide)
            exact h.yield rfl rfl 45 rfl (by change 45 < 78; decide) rfl _ rfl (by go_simp)
          case o9 =>
            intro f a u h hfi hp hq hcl
            refine h.link hfi rfl rfl 3 _ rfl rfl (fun t ht => by cases ht) rfl (fun k c d' hk hc => by (have hk0 : k = 2 := (by omega)); subst hk0; cases hc; exact (pre_of hp 7 rfl)) ?_
            intro xs hl hX hv
            obtain ⟨s, l, v, rfl⟩ := len3 hl
            obtain ⟨hs, hX⟩ : s = _ ∧ OW w B (fun u => Rdr u gR (pid q1).2 ∧ Blk u g2 73 #[.slice none 0 0, .slice none 0 0]) gN 73 #[.slice none 0 0, .slice A1 j c1] [⟨65, 2, 0, [], .slice none 0 0⟩, ⟨77, 34, j + 1, (D.kds.map kdC).flatten ++ (kdC (bstr x1, (pid q1).1)), v⟩] u := hX
            have ev := hv 2 _ _ rfl (by decide)
            obtain ⟨Av, cv, hvv, _, _, _⟩ := own_form (hX.own 1 _ rfl) (by show 0 < 34; decide)
            have hvv : v = .slice Av (j + 1) cv := hvv
            subst hvv
            have c1 : u.cell? ⟨gN, 1, none⟩ = some (.slice A1 j c1) := hX.nod.cell 1
            have f1 := hX.nod.frozen 1
            refine wp_store_cell 71 (.tmp 45) (.tmp 44) rfl rfl (h.at_ 5 rfl (pre_of hp 8 rfl)) ev (st_kids _ _ _ _ _ _ c1 f1) ?_
            exact ⟨.tuple #[], rfl, hs, hX.sto (grown_set u gN 1 _) (blk_set hX.nod 1 _) (get_after hX.rd hlRN (by omega) _ _) hlNB hl0N⟩
        · intro f a u h hall hfar
          obtain ⟨xs, hxl, hX, hv⟩ := h.done (by intro c hc; simp only [List.mem_cons, List.not_mem_nil, or_false] at hc; rcases hc with rfl | rfl | rfl | rfl; all_goals exact hall _ (by decide))
          obtain ⟨s, l, v, t, rfl⟩ := len4 hxl
          have hX : OW w B (fun u => Rdr u gR (pid q1).2 ∧ Blk u g2 73 #[.slice none 0 0, .slice none 0 0]) gN 73 #[.slice none 0 0, v] [⟨65, 2, 0, [], .slice none 0 0⟩, ⟨77, 34, j + 1, (D.kds.map kdC).flatten ++ (kdC (bstr x1, (pid q1).1)), v⟩] u := hX.2
          have hag := h.agree.out
          simp only [List.foldl_cons, List.foldl_nil, Act.put, List.setIfInBounds_toArray, List.set_cons_zero, List.set_cons_succ] at hag
          generalize a.eval (.tmp 37) = y37 at hag
          generalize a.eval (.tmp 38) = y38 at hag
          generalize a.eval (.tmp 39) = y39 at hag
          generalize a.eval (.tmp 40) = y40 at hag
          generalize a.eval (.tmp 41) = y41 at hag
          generalize a.eval (.tmp 42) = y42 at hag
          generalize a.eval (.tmp 43) = y43 at hag
          generalize a.eval (.tmp 44) = y44 at hag
          generalize a.eval (.tmp 45) = y45 at hag
          clear h hall hfar hxl hv
          subst hag
          obtain ⟨Av1, cv1, hvv, lv, mv, hcv⟩ := own_form (hX.own 1 _ rfl) (by show 0 < 34; decide)
          have hvv : v = .slice Av1 (j + 1) cv1 := hvv
          subst hvv
          clear lv mv hcv
          go_wp2
          go_roundg gk'
          case measure => omega
          case rel =>
            rw [kds_snoc] at hX
            exact ⟨j + 1, ⟨D.prs, D.kds ++ [(bstr x1, (pid q1).1)], (pid q1).2⟩, Av1, cv1, by go_num, by omega, Lib.hid (by show _ = tstep false (tsteps false r0 j); rw [← hD.out]; first | (simp only [tstep, Htx.out, if_true, Bool.false_eq_true, if_false]; done) | (simp only [tstep, Htx.out]; try rfl)), hX⟩
    · obtain rfl : j = cnt := by omega
      clear hlt hS
      have hend := rend_calls gR _ wr hX0.rd.1
      obtain ⟨hlp, hlk⟩ := tsteps_len false r0 j
      obtain ⟨hsp, hsk, _⟩ := tsteps_sizes false r0 140737488351232 hbl0 j
      have HDD := Lib.hid HD.out
      rw [← hD.out] at hlp hlk hsp hsk HDD
      simp only [if_true, if_false, Bool.false_eq_true] at hlp hlk
      obtain ⟨t, ht⟩ : ∃ t : Tr, t = ⟨D.prs, D.kds⟩ := ⟨_, rfl⟩
      have hemp : D.prs = [] := List.eq_nil_of_length_eq_zero hlp
      have hNd : TrAt wr t none A1 0 j 0 c1 := by
        subst ht
        refine get_fin _ (nc := #[.slice none 0 0, .slice A1 j c1]) (by rw [hemp]; exact hX0) hlp hlk (by omega) (by omega) hsp hsk
      have hf1 := ow_addr hX0 1 rfl rfl
      have hok : tOk h D = (D.r.end_ && (t.good && (!(h == 2 && D.kds.length == 0) && (h == 1 || h == 2)))) := by rw [ht]; rfl
      have hdd : dd = if tOk h D then some t else none := by rw [HDD.out, ht]
      have HOK := Lib.hid hok
      have HDd := Lib.hid hdd
      have HNd := Lib.hid hNd
      have hN := hX0.nod
      have hres := hX0.rd.2
      have hxe := hX0.ext
      have HN := Lib.hid hN
      have HLK := Lib.hid hlk
      clear hlp hlk hsp hsk hNd ht hX0 hN hD hok hdd hemp hDok hjk HDD
      obtain ⟨c0, c1'⟩ := tree_cells HN.out
      cases hbad : D.r.end_ with
      | false =>
        rw [hbad] at hend
        have hdn : dd = none := by rw [HDd.out, HOK.out, hbad]; rfl
        go_wp2_with (first
          | (go_at_call 65; ((with_reducible refine hend.mono ?_); rintro e w' ⟨rfl, rfl⟩))
          | (refine wpList_store_blk rfl 73 (.tmp 2) (.tmp 76) rfl rfl g2 #[.slice none 0 0, .slice none 0 0] rfl rfl _ _ hres rfl (by kernel_rfl) (by simp [Value.oneCell']) ?_; intro w5 hb5 hg5))
        refine bodyPost_ret (results_row_tmp (P := Tryd.prog) (fn := Tryd.f82) rfl _ _ g2 73 #[.slice none 0 0, .slice none 0 0] _ rfl hb5 Tryd.underlying73 rfl (by kernel_rfl)) rfl ?_
        exact trPost_none rfl (hxe.grown_ hg5 (by intro k hk; cases hk; exact hl2w)) hdn
      | true =>
        rw [hbad] at hend
        have hgc := goodTree_calls t none A1 0 j 0 c1 wr HNd.out
        cases hg : t.good with
        | false =>
          rw [hg] at hgc
          have hdn : dd = none := by rw [HDd.out, HOK.out, hbad, hg]; rfl
          go_wp2_with (first
            | (go_at_call 65; ((with_reducible refine hend.mono ?_); rintro e w' ⟨rfl, rfl⟩))
            | (go_at_call 83; ((with_reducible refine hgc.mono ?_); rintro e w4 ⟨rfl, hx4⟩; have hres4 := hres.ext hx4; clear c0 c1'; obtain ⟨c0, c1'⟩ := tree_cells (HN.out.ext hx4)))
            | (refine wpList_store_blk rfl 73 (.tmp 2) (.tmp 76) rfl rfl g2 #[.slice none 0 0, .slice none 0 0] rfl rfl _ _ hres4 rfl (by kernel_rfl) (by simp [Value.oneCell']) ?_; intro w5 hb5 hg5))
          refine bodyPost_ret (results_row_tmp (P := Tryd.prog) (fn := Tryd.f82) rfl _ _ g2 73 #[.slice none 0 0, .slice none 0 0] _ rfl hb5 Tryd.underlying73 rfl (by kernel_rfl)) rfl ?_
          exact trPost_none rfl ((hxe.trans hx4).grown_ hg5 (by intro k hk; cases hk; exact hl2w)) hdn
        | true =>
          rw [hg] at hgc
          by_cases h2 : (h.toNat : Int) = 2
          · have HH := Lib.hid (show h = 2 from UInt8.toNat_inj.1 (by show h.toNat = 2; omega))
            by_cases hj : (j : Int) = 0
            · have hdn : dd = none := by
                rw [HDd.out, HOK.out, hbad, hg, HLK.out, HH.out, show j = 0 by omega]
                rfl
              go_wp2_with (first
                | (go_at_call 65; ((with_reducible refine hend.mono ?_); rintro e w' ⟨rfl, rfl⟩))
                | (go_at_call 83; ((with_reducible refine hgc.mono ?_); rintro e w4 ⟨rfl, hx4⟩; have hres4 := hres.ext hx4; clear c0 c1'; obtain ⟨c0, c1'⟩ := tree_cells (HN.out.ext hx4)))
                | (refine wpList_store_blk rfl 73 (.tmp 2) (.tmp 76) rfl rfl g2 #[.slice none 0 0, .slice none 0 0] rfl rfl _ _ hres4 rfl (by kernel_rfl) (by simp [Value.oneCell']) ?_; intro w5 hb5 hg5))
              refine bodyPost_ret (results_row_tmp (P := Tryd.prog) (fn := Tryd.f82) rfl _ _ g2 73 #[.slice none 0 0, .slice none 0 0] _ rfl hb5 Tryd.underlying73 rfl (by kernel_rfl)) rfl ?_
              exact trPost_none rfl ((hxe.trans hx4).grown_ hg5 (by intro k hk; cases hk; exact hl2w)) hdn
            · have hds : dd = some t := by
                rw [HDd.out, HOK.out, hbad, hg, HLK.out, HH.out, beq_eq_false_iff_ne.2 (show j ≠ 0 by omega)]
                rfl
              have hjb : (((j : Int) == 0) : Bool) = false := by rw [beq_eq_false_iff_ne]; exact hj
              go_wp2_with (first
                | (go_at_call 65; ((with_reducible refine hend.mono ?_); rintro e w' ⟨rfl, rfl⟩))
                | (go_at_call 83; ((with_reducible refine hgc.mono ?_); rintro e w4 ⟨rfl, hx4⟩; have hres4 := hres.ext hx4; clear c0 c1'; obtain ⟨c0, c1'⟩ := tree_cells (HN.out.ext hx4)))
                | (refine wpList_store_blk rfl 73 (.tmp 2) (.tmp 77) rfl rfl g2 #[.slice none 0 0, .slice A1 j c1] rfl rfl _ _ hres4 rfl (by kernel_rfl) (by simp [Value.oneCell']) ?_; intro w5 hb5 hg5))
              refine bodyPost_ret (results_row_tmp (P := Tryd.prog) (fn := Tryd.f82) rfl _ _ g2 73 #[.slice none 0 0, .slice A1 j c1] _ rfl hb5 Tryd.underlying73 rfl (by kernel_rfl)) rfl ?_
              exact trPost_some rfl (hxe.trans hx4) hg5 hl2w hl2B hds (HNd.out.ext hx4) (fun x h => by cases h) hf1
          · have hn1 : (((h.toNat : Int) != 1) : Bool) = true := bne_iff_ne.2 h1
            have hn2 : (((h.toNat : Int) != 2) : Bool) = true := bne_iff_ne.2 h2
            have hdn : dd = none := by
              rw [HDd.out, HOK.out, hbad, hg, beq_eq_false_iff_ne.2 (show h ≠ 1 from fun e => h1 (by rw [e]; rfl)), beq_eq_false_iff_ne.2 (show h ≠ 2 from fun e => h2 (by rw [e]; rfl))]
              rfl
            go_wp2_with (first
              | (go_at_call 65; ((with_reducible refine hend.mono ?_); rintro e w' ⟨rfl, rfl⟩))
              | (go_at_call 83; ((with_reducible refine hgc.mono ?_); rintro e w4 ⟨rfl, hx4⟩; have hres4 := hres.ext hx4; clear c0 c1'; obtain ⟨c0, c1'⟩ := tree_cells (HN.out.ext hx4)))
              | (refine wpList_store_blk rfl 73 (.tmp 2) (.tmp 76) rfl rfl g2 #[.slice none 0 0, .slice none 0 0] rfl rfl _ _ hres4 rfl (by kernel_rfl) (by simp [Value.oneCell']) ?_; intro w5 hb5 hg5))
            refine bodyPost_ret (results_row_tmp (P := Tryd.prog) (fn := Tryd.f82) rfl _ _ g2 73 #[.slice none 0 0, .slice none 0 0] _ rfl hb5 Tryd.underlying73 rfl (by kernel_rfl)) rfl ?_
            exact trPost_none rfl ((hxe.trans hx4).grown_ hg5 (by intro k hk; cases hk; exact hl2w)) hdn

/-- GetTree: the tree of bytes. -/
theorem getTree_calls (A : Option Addr) (n c : Nat) (bs : List UInt8) (w : World) (hb : Cells w A (bv bs)) (hn : bs.length = n) (hl : n ≤ 140737488351232) :
    Calls Tryd.prog 82 #[.slice A n c] w fun e w' => TrPost fErr (decT bs) w e w' := by
  match bs, hn, hb with
  | [], hn, hb => exact getTree_few A n c [] w hb (Lib.hid hn) hl (by rw [← hn]; decide)
  | [x], hn, hb => exact getTree_few A n c [x] w hb (Lib.hid hn) hl (by rw [← hn]; show 1 < 2; decide)
  | h :: n1 :: b, hn, hb =>
    show Calls _ _ _ _ fun e w' => TrPost fErr (decTB h n1 b) w e w'
    by_cases h1 : h = 1
    · subst h1
      exact getTree_leaf A n c n1 b _ w (Lib.hid rfl) hb (Lib.hid hn) hl n1.toNat rfl
    · exact getTree_kids A n c h n1 b _ w (Lib.hid rfl) hb (Lib.hid hn) hl n1.toNat rfl (fun e => h1 (UInt8.toNat_inj.1 (by show h.toNat = 1; omega)))
end Go.Proofs.YtcnhbodemabbdaaDoor
