/- The reference's Put and Of; rows of writes. Printed by wip/mktabref.py. -/
import Derived.Test.YtnggdkpaofbaaaaTabOf
namespace Go.Proofs.Ytnggdkpaofbaaaa
open Go.RowKit
set_option linter.unusedVariables false

/-- Writes in a row of the call's own. -/
def OwnW (B : Nat) (w : World) (v : Value) (l : List W3) : Prop := w.ownsRow B 46 3 v l.length (l.map wC).flatten
theorem OwnW.nil (B : Nat) (w : World) : OwnW B w (.slice none 0 0) [] := World.ownsRow_nil w B _ 3
theorem OwnW.form {B : Nat} {w : World} {v : Value} {l : List W3} (h : OwnW B w v l) : ∃ A c, v = .slice A l.length c ∧ l.length ≤ c ∧ c ≤ maxLen ∧ Cells w A (l.map wC).flatten := own_form h (by decide)
theorem OwnW.ext {B : Nat} {w w' : World} {v : Value} {l : List W3} (h : OwnW B w v l) (k : Ext w w') : OwnW B w' v l := own_ext h k
theorem OwnW.lower {B B' : Nat} {w : World} {v : Value} {l : List W3} (h : OwnW B w v l) (hb : B' ≤ B) : OwnW B' w v l := own_lower h hb
theorem wfull_info : (Try.prog.info? 46).map (fun i => (i.zero, i.size, i.bytes)) = some (some (.agg #[.string ByteArray.empty, .string ByteArray.empty, .bool false]), 3, 40) := by kernel_rfl
theorem wflat_len (l : List W3) : (l.map wC).flatten.length = l.length * 3 := by
  induction l with
  | nil => rfl
  | cons a l ih => rw [List.map_cons, List.flatten_cons, List.length_append, ih, wC_len, List.length_cons, Nat.succ_mul, Nat.add_comm]
theorem wflat_one (l : List W3) : ∀ u ∈ (l.map wC).flatten, u.oneCell' = true := by
  intro u hu
  obtain ⟨cs, hcs, hu⟩ := List.mem_flatten.1 hu
  obtain ⟨x, _, rfl⟩ := List.mem_map.1 hcs
  exact wC_one x u hu
theorem row_of_cells {w : World} {A : Option Addr} {l : List W3} (h : Cells w A (l.map wC).flatten) : Row w A 3 (l.map wC) := by
  intro i cs hi
  rw [List.getElem?_map] at hi
  obtain ⟨x, hx, rfl⟩ := Option.map_eq_some_iff.1 hi
  have hcs : ∀ cs ∈ l.map wC, cs.length = 3 := fun cs hcs => by obtain ⟨y, _, rfl⟩ := List.mem_map.1 hcs; exact wC_len y
  have hg : ∀ j v, (wC x)[j]? = some v → (l.map wC).flatten[i * 3 + j]? = some v := fun j v hj => flat_get _ hcs i j (wC x) v (by rw [List.getElem?_map, hx]; rfl) hj
  obtain ⟨a, ha, _⟩ := h _ _ (hg 0 _ rfl)
  refine ⟨wC_len x, a, ha, fun j v hj => ?_⟩
  obtain ⟨a', ha', hc⟩ := h _ _ (hg j v hj)
  rw [ha] at ha'
  cases ha'
  rw [add_add]
  exact hc
theorem wpList_append_w (w : World) {ops : Array Oper} {rest : List Oper} {o : Oper} {a : Act} {Q : Exit → Act → World → Prop} (hgd : o.guard = none) (s x : Operand)
    (ho : o.op = .call { callee := .builtin .append, args := #[s, x], argTypes := #[22, 22] })
    (B : Nat) (v : Value) (xs : List W3) (hs : a.eval s = v) (hown : OwnW B w v xs)
    (A : Option Addr) (m c : Nat) (ys : List W3) (hx : a.eval x = .slice A m c) (hm : ys.length = m) (hr : Cells w A (ys.map wC).flatten)
    (hlen : xs.length + m ≤ 10000000) (hbase : B ≤ w.heap.size)
    (h : ∀ v' w', OwnW B w' v' (xs ++ ys) → w.grownBy w' v.ownBlock → (v'.ownBlock = v.ownBlock ∨ v'.ownBlock = some w.heap.size) → wpList Try.prog ops Q rest (a.put o.dst v') w') : wpList Try.prog ops Q (o :: rest) a w := by
  subst hm
  refine wpList_plain hgd fun _ hK => wp_append w s x 22 ho B 46 (.agg #[.string ByteArray.empty, .string ByteArray.empty, .bool false]) 3 40 Try.underlying22 wfull_info rfl (by decide) v xs.length (xs.map wC).flatten hs hown A ys.length c (ys.map wC).flatten hx
    (wflat_len ys) hr (wflat_one ys) (by simp only [maxLen]; omega) (by omega) hbase fun v' w' h2 h3 h4 => hK _ _ (h v' w' ?_ h3 h4)
  unfold OwnW
  rw [List.map_append, List.flatten_append, List.length_append]
  exact h2
theorem OwnW.grows {w0 w w' : World} {B : Nat} {v : Value} {l : List W3} (h : OwnW B w v l) (hB : w0.heap.size ≤ B) (k : Ext w0 w) (hg : w.grownBy w' v.ownBlock) : Ext w0 w' := k.grown_ hg (fun j hj => Nat.le_trans hB (own_lt h hj).1)
theorem ins_step (w : W3) (done : Bool) (x : W3) (l : List W3) : ins w done (x :: l) = (if !done && !klt x.1 w.1 then [w] else []) ++ ((if x.1 = w.1 then [] else [x]) ++ ins w (done || !klt x.1 w.1) l) := rfl

set_option maxRecDepth 50000 in
set_option maxHeartbeats 8000000 in
theorem rput_calls (ls : List W3) (A : Option Addr) (n c : Nat) (y : W3) (w : World) (hr : Row w A 3 (ls.map wC)) (hn : ls.length = n) (hl : n ≤ 1000000) :
    Calls Try.prog 48 #[.slice A n c, wV y] w fun e w' => ∃ v, e = .returned v ∧ OwnW w.heap.size w' v (ins (fixW y) false ls) ∧ Ext w w' := by
  have Hr := Lib.hid hr
  have Hn := Lib.hid hn
  clear hr hn
  obtain ⟨y0, y1, y2⟩ := y
  obtain ⟨f1, hf1⟩ : ∃ f1, f1 = (if y2 then ByteArray.empty else y1) := ⟨_, rfl⟩
  have hfix : fixW (y0, y1, y2) = (y0, f1, y2) := by rw [hf1]; cases y2 <;> rfl
  rw [hfix]
  clear hfix
  unfold wV wC
  go_enter Try.func48, Try.ntmps48
  obtain ⟨w1, hw1⟩ : ∃ w1, w1 = w.alloc (.cells #[.string y0, .string y1, .bool y2] 46) := ⟨_, rfl⟩
  have hx1 : Ext w w1 := by rw [hw1]; exact (Ext.refl _).alloc _
  have hb1 : Blk w1 w.heap.size 46 (wC (y0, y1, y2)).toArray := by rw [hw1]; exact Blk.new w _ _
  go_upto_region 1 with (fail)
  rw [← hw1]
  obtain ⟨g3, hg3⟩ : ∃ g3, g3 = w.heap.size := ⟨_, rfl⟩
  rw [← hg3] at hb1 ⊢
  have hg30 : w.heap.size ≤ g3 := by rw [hg3]; exact Nat.le_refl _
  have HB1 := Lib.hid hb1
  clear hw1 hb1 hg3
  have c2 : w1.cell? ⟨g3, 2, none⟩ = some (.bool y2) := by rw [HB1.out.cell]; rfl
  obtain ⟨Bq, hBq⟩ : ∃ Bq, Bq = w1.heap.size := ⟨_, rfl⟩
  have hwB : w.heap.size ≤ Bq := by rw [hBq]; exact hx1.size
  have hg3B : g3 < Bq := by rw [hBq]; exact HB1.out.lt
  cases y2
  · have hxW : Ext w w1 := hx1
    have hfe : f1 = y1 := hf1
    subst hfe
    have HBW := HB1
    have hBW : Bq ≤ w1.heap.size := by rw [hBq]; exact Nat.le_refl _
    clear hf1 HB1 hx1 hBq
    go_upto_region 6 with (fail)
    go_loopw [14, 5, 6] (fun i u v wr => ∃ (k : Nat) (done : Bool) (out : List W3), k ≤ n ∧ i = .int .i64 k ∧ v = .bool done ∧ out.length ≤ 2 * k ∧ Hid (OwnW Bq wr u out) ∧ Hid (ins (y0, f1, false) false ls = out ++ ins (y0, f1, false) done (ls.drop k)) ∧ Ext w wr ∧ Hid (Blk wr g3 46 (wC (y0, f1, false)).toArray) ∧ Bq ≤ wr.heap.size) (fun i _ _ _ => n - (intOf i).toNat)
    case atStart => exact ⟨0, false, [], Nat.zero_le _, rfl, rfl, Nat.zero_le _, Lib.hid (OwnW.nil _ _), Lib.hid rfl, hxW, HBW, hBW⟩
    case round =>
      clear HBW hxW hBW
      obtain ⟨k, done, out, hk, rfl, rfl, hol, HO, HI, hx, HB, hBw⟩ := hrel
      obtain ⟨A5, c5, rfl, _, _, _⟩ := HO.out.form
      have HOLT := Lib.hid (fun j (hj : (Value.slice A5 out.length c5).ownBlock = some j) => (own_lt HO.out hj).2)
      by_cases hlt : k < n
      · have hkl : k < ls.length := by rw [Hn.out]; exact hlt
        obtain ⟨ad, rfl, hlc0⟩ := Hr.out.get (i := k) (by simpa using hkl)
        rw [List.getElem_map] at hlc0
        have hdr : ls.drop k = ls[k] :: ls.drop (k + 1) := (List.getElem_cons_drop hkl).symm
        obtain ⟨x, hxe⟩ : ∃ x, x = ls[k] := ⟨_, rfl⟩
        rw [← hxe] at hlc0 hdr
        have hin := HI.out
        rw [hdr, ins_step] at hin
        have hlc : ∀ (j : Nat) (v : Value), (wC x)[j]? = some v → wr.cell? ((ad.add (k * 3)).add j) = some v := fun j v hj => hx.cell (hlc0 j v hj)
        have HIN := Lib.hid hin
        clear hxe hlc0 hdr hin hkl
        have hp0 : (0 : Int) ≤ (k : Int) := by omega
        have hp1 : (k : Int) < (n : Int) := by omega
        go_upto_region 8 with (first
              | (refine wpList_load_row_ rfl 46 (.tmp 16) rfl (ad.add (k * 3)) rfl (wC x) _ hlc Try.underlying46 rfl (by rw [w_info]; rfl) ?_)
              | (refine wpList_store_blk rfl 46 (.tmp 8) (.tmp 17) rfl rfl wr.heap.size (wC x).toArray rfl rfl _ _ (Blk.new wr _ _) rfl (by kernel_rfl) (wC_one x) ?_; intro w3 hb3 hg3; have hx3 : Ext wr w3 := ((Ext.refl _).alloc _).grown_ hg3 (by simp)))
        obtain ⟨g8, hg8⟩ : ∃ g8, g8 = wr.heap.size := ⟨_, rfl⟩
        rw [← hg8] at hb3 HOLT ⊢
        have hg8B : Bq ≤ g8 := by rw [hg8]; exact hBw
        have hB3w : Bq ≤ w3.heap.size := Nat.le_trans hBw hx3.size
        have HB8 := Lib.hid hb3
        have HB3 := Lib.hid (HB.out.ext hx3)
        have HO3 := Lib.hid (HO.out.ext hx3)
        have HX3 := Lib.hid (hx.trans hx3)
        clear hlc hg3 hb3 hg8 HO HB hx hBw HI
        obtain ⟨x0, x1, x2⟩ := x
        have k0 : w3.cell? ⟨g8, 0, none⟩ = some (.string x0) := by rw [HB8.out.cell]; rfl
        have d0 : w3.cell? ⟨g3, 0, none⟩ = some (.string y0) := by rw [HB3.out.cell]; rfl
        cases done
        · cases q1 : klt x0 y0 with
          | true =>
            have b1 : Op.bytesLess x0.toList y0.toList = true := q1
            have b2 : Op.bytesLess y0.toList x0.toList = false := klt_asymm q1
            have q2 := klt_ne q1
            have b3 : (x0.toList == y0.toList) = false := by rw [beq_eq_false_iff_ne]; exact fun e => q2 (kl_inj e)
            have b4 : (y0.toList == x0.toList) = false := by rw [beq_eq_false_iff_ne]; exact fun e => q2 (kl_inj e).symm
            go_wp2_with (first
              | (refine wpList_load_row_ rfl 46 (.tmp 8) rfl ⟨g8, 0, none⟩ rfl [.string x0, .string x1, .bool x2] _ (blk_cells HB8.out) Try.underlying46 rfl (by rw [w_info]; rfl) ?_)
              | (at_builtin; refine wpList_append_w _ rfl (.tmp 36) (.tmp 38) rfl Bq (.slice A5 (out.length) c5) (out) rfl (HO3.out.ext ((Ext.refl w3).alloc (.cells (wC (x0, x1, x2)).toArray 46))) (some ⟨w3.heap.size, 0, none⟩) 1 1 [(x0, x1, x2)] rfl rfl (Blk.new w3 46 (wC (x0, x1, x2)).toArray).cells (by have := hol; first | omega | (rw [List.length_append]; simp only [List.length_cons, List.length_nil]; omega)) (Nat.le_trans hB3w ((Ext.refl w3).alloc (.cells (wC (x0, x1, x2)).toArray 46)).size) ?_; intro v5 w5 ho5 hg5 _; have hxl5 := (Ext.refl w3).alloc (.cells (wC (x0, x1, x2)).toArray 46); have hol5 := fun j hj => (own_lt (HO3.out.ext hxl5) hj : Bq ≤ j ∧ _).1; have HX5 := Lib.hid ((HX3.out.trans hxl5).grown_ hg5 (fun j e => Nat.le_trans hwB (hol5 j e))); have HB35 := Lib.hid ((HB3.out.ext hxl5).grown hg5 (fun e => by have := hol5 g3 e.symm; omega)); have hBw5 := (show Bq ≤ w5.heap.size from Nat.le_trans hB3w (Nat.le_trans hxl5.size hg5.size)); obtain ⟨A5, c5, rfl, _, _, _⟩ := ho5.form; rw [show ((out) ++ [(x0, x1, x2)]).length = out.length + 1 from (by simp)] at ho5 ⊢; have HO5 := Lib.hid ho5; clear ho5 hg5 hxl5 hol5))
            go_roundw
            case rel => exact ⟨k + 1, false, out ++ [(x0, x1, x2)], by omega, by go_num, rfl, by first | omega | (simp only [List.length_append, List.length_cons, List.length_nil]; omega), HO5, Lib.hid (by rw [HIN.out]; simp [q1, q2]), HX5.out, HB35, hBw5⟩
            case measure => simp [intOf]; omega
          | false =>
            by_cases q2 : x0 = y0
            · have b1 : Op.bytesLess x0.toList y0.toList = false := q1
              have b2 : Op.bytesLess y0.toList x0.toList = false := by rw [← q2]; exact klt_irrefl x0
              have b3 : (x0.toList == y0.toList) = true := by rw [q2]; exact beq_self_eq_true _
              have b4 : (y0.toList == x0.toList) = true := by rw [q2]; exact beq_self_eq_true _
              have HQ := Lib.hid q2
              clear q2
              go_wp2_with (first
                | (refine wpList_load_row_ rfl 46 (.tmp 3) rfl ⟨g3, 0, none⟩ rfl [.string y0, .string f1, .bool false] _ (blk_cells HB3.out) Try.underlying46 rfl (by rw [w_info]; rfl) ?_)
                | (at_builtin; refine wpList_append_w _ rfl (.tmp 27) (.tmp 29) rfl Bq (.slice A5 (out.length) c5) (out) rfl (HO3.out.ext ((Ext.refl w3).alloc (.cells (wC (y0, f1, false)).toArray 46))) (some ⟨w3.heap.size, 0, none⟩) 1 1 [(y0, f1, false)] rfl rfl (Blk.new w3 46 (wC (y0, f1, false)).toArray).cells (by have := hol; first | omega | (rw [List.length_append]; simp only [List.length_cons, List.length_nil]; omega)) (Nat.le_trans hB3w ((Ext.refl w3).alloc (.cells (wC (y0, f1, false)).toArray 46)).size) ?_; intro v4 w4 ho4 hg4 _; have hxl4 := (Ext.refl w3).alloc (.cells (wC (y0, f1, false)).toArray 46); have hol4 := fun j hj => (own_lt (HO3.out.ext hxl4) hj : Bq ≤ j ∧ _).1; have HX4 := Lib.hid ((HX3.out.trans hxl4).grown_ hg4 (fun j e => Nat.le_trans hwB (hol4 j e))); have HB34 := Lib.hid ((HB3.out.ext hxl4).grown hg4 (fun e => by have := hol4 g3 e.symm; omega)); have HB84 := Lib.hid ((HB8.out.ext hxl4).grown hg4 (fun e => by have := HOLT.out g8 e.symm; omega)); have kk0 := (show w4.cell? ⟨g8, 0, none⟩ = some (.string x0) from by rw [HB84.out.cell]; rfl); have dd0 := (show w4.cell? ⟨g3, 0, none⟩ = some (.string y0) from by rw [HB34.out.cell]; rfl); have hBw4 := Nat.le_trans hB3w (Nat.le_trans hxl4.size hg4.size); obtain ⟨A4, c4, rfl, _, _, _⟩ := ho4.form; rw [show ((out) ++ [(y0, f1, false)]).length = out.length + 1 from (by simp)] at ho4 ⊢; have HO4 := Lib.hid ho4; clear ho4 hg4 hxl4 hol4))
              go_roundw
              case rel => exact ⟨k + 1, true, out ++ [(y0, f1, false)], by omega, by go_num, rfl, by first | omega | (simp only [List.length_append, List.length_cons, List.length_nil]; omega), HO4, Lib.hid (by rw [HIN.out]; simp [HQ.out, klt_irrefl]), HX4.out, HB34, hBw4⟩
              case measure => simp [intOf]; omega
            · have b1 : Op.bytesLess x0.toList y0.toList = false := q1
              have b2 : Op.bytesLess y0.toList x0.toList = true := klt_or q1 (Ne.symm q2)
              have b3 : (x0.toList == y0.toList) = false := by rw [beq_eq_false_iff_ne]; exact fun e => q2 (kl_inj e)
              have b4 : (y0.toList == x0.toList) = false := by rw [beq_eq_false_iff_ne]; exact fun e => q2 (kl_inj e).symm
              go_wp2_with (first
                | (refine wpList_load_row_ rfl 46 (.tmp 3) rfl ⟨g3, 0, none⟩ rfl [.string y0, .string f1, .bool false] _ (blk_cells HB3.out) Try.underlying46 rfl (by rw [w_info]; rfl) ?_)
                | (at_builtin; refine wpList_append_w _ rfl (.tmp 27) (.tmp 29) rfl Bq (.slice A5 (out.length) c5) (out) rfl (HO3.out.ext ((Ext.refl w3).alloc (.cells (wC (y0, f1, false)).toArray 46))) (some ⟨w3.heap.size, 0, none⟩) 1 1 [(y0, f1, false)] rfl rfl (Blk.new w3 46 (wC (y0, f1, false)).toArray).cells (by have := hol; first | omega | (rw [List.length_append]; simp only [List.length_cons, List.length_nil]; omega)) (Nat.le_trans hB3w ((Ext.refl w3).alloc (.cells (wC (y0, f1, false)).toArray 46)).size) ?_; intro v4 w4 ho4 hg4 _; have hxl4 := (Ext.refl w3).alloc (.cells (wC (y0, f1, false)).toArray 46); have hol4 := fun j hj => (own_lt (HO3.out.ext hxl4) hj : Bq ≤ j ∧ _).1; have HX4 := Lib.hid ((HX3.out.trans hxl4).grown_ hg4 (fun j e => Nat.le_trans hwB (hol4 j e))); have HB34 := Lib.hid ((HB3.out.ext hxl4).grown hg4 (fun e => by have := hol4 g3 e.symm; omega)); have HB84 := Lib.hid ((HB8.out.ext hxl4).grown hg4 (fun e => by have := HOLT.out g8 e.symm; omega)); have kk0 := (show w4.cell? ⟨g8, 0, none⟩ = some (.string x0) from by rw [HB84.out.cell]; rfl); have dd0 := (show w4.cell? ⟨g3, 0, none⟩ = some (.string y0) from by rw [HB34.out.cell]; rfl); have hBw4 := Nat.le_trans hB3w (Nat.le_trans hxl4.size hg4.size); obtain ⟨A4, c4, rfl, _, _, _⟩ := ho4.form; rw [show ((out) ++ [(y0, f1, false)]).length = out.length + 1 from (by simp)] at ho4 ⊢; have HO4 := Lib.hid ho4; clear ho4 hg4 hxl4 hol4)
                | (refine wpList_load_row_ rfl 46 (.tmp 8) rfl ⟨g8, 0, none⟩ rfl [.string x0, .string x1, .bool x2] _ (blk_cells HB84.out) Try.underlying46 rfl (by rw [w_info]; rfl) ?_)
                | (at_builtin; refine wpList_append_w _ rfl (.tmp 36) (.tmp 38) rfl Bq (.slice A4 (out.length + 1) c4) (out ++ [(y0, f1, false)]) rfl (HO4.out.ext ((Ext.refl w4).alloc (.cells (wC (x0, x1, x2)).toArray 46))) (some ⟨w4.heap.size, 0, none⟩) 1 1 [(x0, x1, x2)] rfl rfl (Blk.new w4 46 (wC (x0, x1, x2)).toArray).cells (by have := hol; first | omega | (rw [List.length_append]; simp only [List.length_cons, List.length_nil]; omega)) (Nat.le_trans hBw4 ((Ext.refl w4).alloc (.cells (wC (x0, x1, x2)).toArray 46)).size) ?_; intro v5 w5 ho5 hg5 _; have hxl5 := (Ext.refl w4).alloc (.cells (wC (x0, x1, x2)).toArray 46); have hol5 := fun j hj => (own_lt (HO4.out.ext hxl5) hj : Bq ≤ j ∧ _).1; have HX5 := Lib.hid ((HX4.out.trans hxl5).grown_ hg5 (fun j e => Nat.le_trans hwB (hol5 j e))); have HB35 := Lib.hid ((HB34.out.ext hxl5).grown hg5 (fun e => by have := hol5 g3 e.symm; omega)); have hBw5 := (show Bq ≤ w5.heap.size from Nat.le_trans hBw4 (Nat.le_trans hxl5.size hg5.size)); obtain ⟨A5, c5, rfl, _, _, _⟩ := ho5.form; rw [show ((out ++ [(y0, f1, false)]) ++ [(x0, x1, x2)]).length = out.length + 1 + 1 from (by simp)] at ho5 ⊢; have HO5 := Lib.hid ho5; clear ho5 hg5 hxl5 hol5))
              go_roundw
              case rel => exact ⟨k + 1, true, (out ++ [(y0, f1, false)]) ++ [(x0, x1, x2)], by omega, by go_num, rfl, by first | omega | (simp only [List.length_append, List.length_cons, List.length_nil]; omega), HO5, Lib.hid (by rw [HIN.out]; simp [q1, q2]), HX5.out, HB35, hBw5⟩
              case measure => simp [intOf]; omega
        · cases q1 : klt x0 y0 with
          | true =>
            have b1 : Op.bytesLess x0.toList y0.toList = true := q1
            have b2 : Op.bytesLess y0.toList x0.toList = false := klt_asymm q1
            have q2 := klt_ne q1
            have b3 : (x0.toList == y0.toList) = false := by rw [beq_eq_false_iff_ne]; exact fun e => q2 (kl_inj e)
            have b4 : (y0.toList == x0.toList) = false := by rw [beq_eq_false_iff_ne]; exact fun e => q2 (kl_inj e).symm
            go_wp2_with (first
              | (refine wpList_load_row_ rfl 46 (.tmp 8) rfl ⟨g8, 0, none⟩ rfl [.string x0, .string x1, .bool x2] _ (blk_cells HB8.out) Try.underlying46 rfl (by rw [w_info]; rfl) ?_)
              | (at_builtin; refine wpList_append_w _ rfl (.tmp 36) (.tmp 38) rfl Bq (.slice A5 (out.length) c5) (out) rfl (HO3.out.ext ((Ext.refl w3).alloc (.cells (wC (x0, x1, x2)).toArray 46))) (some ⟨w3.heap.size, 0, none⟩) 1 1 [(x0, x1, x2)] rfl rfl (Blk.new w3 46 (wC (x0, x1, x2)).toArray).cells (by have := hol; first | omega | (rw [List.length_append]; simp only [List.length_cons, List.length_nil]; omega)) (Nat.le_trans hB3w ((Ext.refl w3).alloc (.cells (wC (x0, x1, x2)).toArray 46)).size) ?_; intro v5 w5 ho5 hg5 _; have hxl5 := (Ext.refl w3).alloc (.cells (wC (x0, x1, x2)).toArray 46); have hol5 := fun j hj => (own_lt (HO3.out.ext hxl5) hj : Bq ≤ j ∧ _).1; have HX5 := Lib.hid ((HX3.out.trans hxl5).grown_ hg5 (fun j e => Nat.le_trans hwB (hol5 j e))); have HB35 := Lib.hid ((HB3.out.ext hxl5).grown hg5 (fun e => by have := hol5 g3 e.symm; omega)); have hBw5 := (show Bq ≤ w5.heap.size from Nat.le_trans hB3w (Nat.le_trans hxl5.size hg5.size)); obtain ⟨A5, c5, rfl, _, _, _⟩ := ho5.form; rw [show ((out) ++ [(x0, x1, x2)]).length = out.length + 1 from (by simp)] at ho5 ⊢; have HO5 := Lib.hid ho5; clear ho5 hg5 hxl5 hol5))
            go_roundw
            case rel => exact ⟨k + 1, true, out ++ [(x0, x1, x2)], by omega, by go_num, rfl, by first | omega | (simp only [List.length_append, List.length_cons, List.length_nil]; omega), HO5, Lib.hid (by rw [HIN.out]; simp [q1, q2]), HX5.out, HB35, hBw5⟩
            case measure => simp [intOf]; omega
          | false =>
            by_cases q2 : x0 = y0
            · have b1 : Op.bytesLess x0.toList y0.toList = false := q1
              have b2 : Op.bytesLess y0.toList x0.toList = false := by rw [← q2]; exact klt_irrefl x0
              have b3 : (x0.toList == y0.toList) = true := by rw [q2]; exact beq_self_eq_true _
              have b4 : (y0.toList == x0.toList) = true := by rw [q2]; exact beq_self_eq_true _
              have HQ := Lib.hid q2
              clear q2
              go_wp2
              go_roundw
              case rel => exact ⟨k + 1, true, out, by omega, by go_num, rfl, by first | omega | (simp only [List.length_append, List.length_cons, List.length_nil]; omega), HO3, Lib.hid (by rw [HIN.out]; simp [HQ.out, klt_irrefl]), HX3.out, HB3, hB3w⟩
              case measure => simp [intOf]; omega
            · have b1 : Op.bytesLess x0.toList y0.toList = false := q1
              have b2 : Op.bytesLess y0.toList x0.toList = true := klt_or q1 (Ne.symm q2)
              have b3 : (x0.toList == y0.toList) = false := by rw [beq_eq_false_iff_ne]; exact fun e => q2 (kl_inj e)
              have b4 : (y0.toList == x0.toList) = false := by rw [beq_eq_false_iff_ne]; exact fun e => q2 (kl_inj e).symm
              go_wp2_with (first
                | (refine wpList_load_row_ rfl 46 (.tmp 8) rfl ⟨g8, 0, none⟩ rfl [.string x0, .string x1, .bool x2] _ (blk_cells HB8.out) Try.underlying46 rfl (by rw [w_info]; rfl) ?_)
                | (at_builtin; refine wpList_append_w _ rfl (.tmp 36) (.tmp 38) rfl Bq (.slice A5 (out.length) c5) (out) rfl (HO3.out.ext ((Ext.refl w3).alloc (.cells (wC (x0, x1, x2)).toArray 46))) (some ⟨w3.heap.size, 0, none⟩) 1 1 [(x0, x1, x2)] rfl rfl (Blk.new w3 46 (wC (x0, x1, x2)).toArray).cells (by have := hol; first | omega | (rw [List.length_append]; simp only [List.length_cons, List.length_nil]; omega)) (Nat.le_trans hB3w ((Ext.refl w3).alloc (.cells (wC (x0, x1, x2)).toArray 46)).size) ?_; intro v5 w5 ho5 hg5 _; have hxl5 := (Ext.refl w3).alloc (.cells (wC (x0, x1, x2)).toArray 46); have hol5 := fun j hj => (own_lt (HO3.out.ext hxl5) hj : Bq ≤ j ∧ _).1; have HX5 := Lib.hid ((HX3.out.trans hxl5).grown_ hg5 (fun j e => Nat.le_trans hwB (hol5 j e))); have HB35 := Lib.hid ((HB3.out.ext hxl5).grown hg5 (fun e => by have := hol5 g3 e.symm; omega)); have hBw5 := (show Bq ≤ w5.heap.size from Nat.le_trans hB3w (Nat.le_trans hxl5.size hg5.size)); obtain ⟨A5, c5, rfl, _, _, _⟩ := ho5.form; rw [show ((out) ++ [(x0, x1, x2)]).length = out.length + 1 from (by simp)] at ho5 ⊢; have HO5 := Lib.hid ho5; clear ho5 hg5 hxl5 hol5))
              go_roundw
              case rel => exact ⟨k + 1, true, out ++ [(x0, x1, x2)], by omega, by go_num, rfl, by first | omega | (simp only [List.length_append, List.length_cons, List.length_nil]; omega), HO5, Lib.hid (by rw [HIN.out]; simp [q1, q2]), HX5.out, HB35, hBw5⟩
              case measure => simp [intOf]; omega
      · obtain rfl : n = k := by omega
        have hin := HI.out
        rw [← Hn.out, List.drop_length] at hin
        have HIN := Lib.hid hin
        have HO3 := HO
        have HX3 := Lib.hid hx
        have HB3 := HB
        clear hin HI
        cases done
        · go_wp2_with (first
            | (refine wpList_load_row_ rfl 46 (.tmp 3) rfl ⟨g3, 0, none⟩ rfl [.string y0, .string f1, .bool false] _ (blk_cells HB3.out) Try.underlying46 rfl (by rw [w_info]; rfl) ?_)
            | (at_builtin; refine wpList_append_w _ rfl (.tmp 43) (.tmp 45) rfl Bq (.slice A5 (out.length) c5) (out) rfl (HO3.out.ext ((Ext.refl wr).alloc (.cells (wC (y0, f1, false)).toArray 46))) (some ⟨wr.heap.size, 0, none⟩) 1 1 [(y0, f1, false)] rfl rfl (Blk.new wr 46 (wC (y0, f1, false)).toArray).cells (by have := hol; first | omega | (rw [List.length_append]; simp only [List.length_cons, List.length_nil]; omega)) (Nat.le_trans hBw ((Ext.refl wr).alloc (.cells (wC (y0, f1, false)).toArray 46)).size) ?_; intro v5 w5 ho5 hg5 _; have hxl5 := (Ext.refl wr).alloc (.cells (wC (y0, f1, false)).toArray 46); have hol5 := fun j hj => (own_lt (HO3.out.ext hxl5) hj : Bq ≤ j ∧ _).1; have HX5 := Lib.hid ((HX3.out.trans hxl5).grown_ hg5 (fun j e => Nat.le_trans hwB (hol5 j e))); have HB35 := Lib.hid ((HB3.out.ext hxl5).grown hg5 (fun e => by have := hol5 g3 e.symm; omega)); have hBw5 := (show Bq ≤ w5.heap.size from Nat.le_trans hBw (Nat.le_trans hxl5.size hg5.size)); obtain ⟨A5, c5, rfl, _, _, _⟩ := ho5.form; rw [show ((out) ++ [(y0, f1, false)]).length = out.length + 1 from (by simp)] at ho5 ⊢; have HO5 := Lib.hid ho5; clear ho5 hg5 hxl5 hol5))
          go_ret
          refine ⟨_, rfl, ?_, HX5.out⟩
          rw [HIN.out]
          exact HO5.out.lower hwB
        · go_wp2
          go_ret
          refine ⟨_, rfl, ?_, hx⟩
          rw [HIN.out]
          show OwnW _ _ _ (out ++ [])
          rw [List.append_nil]
          exact HO.out.lower hwB
  · have e1 : w1.cell? ⟨g3, 1, none⟩ = some (.string y1) := by rw [HB1.out.cell]; rfl
    have fz := HB1.out.frozen 1
    go_upto_region 3 with (fail)
    obtain ⟨w2, hw2⟩ : ∃ w2, w2 = w1.setCell ⟨g3, 1, none⟩ (.string { data := #[] }) := ⟨_, rfl⟩
    rw [← hw2]
    have hg2 : w1.grownBy w2 (some g3) := by rw [hw2]; exact grown_set w1 g3 1 _
    have hxW : Ext w w2 := hx1.grown_ hg2 (fun j e => by cases e; exact hg30)
    have hfe : f1 = ByteArray.empty := hf1
    subst hfe
    have HBW := Lib.hid (show Blk w2 g3 46 (wC (y0, ByteArray.empty, true)).toArray from by rw [hw2]; exact HB1.out.set 1 _)
    have hBW : Bq ≤ w2.heap.size := by rw [hBq]; exact hg2.size
    clear hf1 HB1 hx1 hBq hw2 hg2 e1 fz c2
    go_upto_region 6 with (fail)
    go_loopw [14, 5, 6] (fun i u v wr => ∃ (k : Nat) (done : Bool) (out : List W3), k ≤ n ∧ i = .int .i64 k ∧ v = .bool done ∧ out.length ≤ 2 * k ∧ Hid (OwnW Bq wr u out) ∧ Hid (ins (y0, ByteArray.empty, true) false ls = out ++ ins (y0, ByteArray.empty, true) done (ls.drop k)) ∧ Ext w wr ∧ Hid (Blk wr g3 46 (wC (y0, ByteArray.empty, true)).toArray) ∧ Bq ≤ wr.heap.size) (fun i _ _ _ => n - (intOf i).toNat)
    case atStart => exact ⟨0, false, [], Nat.zero_le _, rfl, rfl, Nat.zero_le _, Lib.hid (OwnW.nil _ _), Lib.hid rfl, hxW, HBW, hBW⟩
    case round =>
      clear HBW hxW hBW
      obtain ⟨k, done, out, hk, rfl, rfl, hol, HO, HI, hx, HB, hBw⟩ := hrel
      obtain ⟨A5, c5, rfl, _, _, _⟩ := HO.out.form
      have HOLT := Lib.hid (fun j (hj : (Value.slice A5 out.length c5).ownBlock = some j) => (own_lt HO.out hj).2)
      by_cases hlt : k < n
      · have hkl : k < ls.length := by rw [Hn.out]; exact hlt
        obtain ⟨ad, rfl, hlc0⟩ := Hr.out.get (i := k) (by simpa using hkl)
        rw [List.getElem_map] at hlc0
        have hdr : ls.drop k = ls[k] :: ls.drop (k + 1) := (List.getElem_cons_drop hkl).symm
        obtain ⟨x, hxe⟩ : ∃ x, x = ls[k] := ⟨_, rfl⟩
        rw [← hxe] at hlc0 hdr
        have hin := HI.out
        rw [hdr, ins_step] at hin
        have hlc : ∀ (j : Nat) (v : Value), (wC x)[j]? = some v → wr.cell? ((ad.add (k * 3)).add j) = some v := fun j v hj => hx.cell (hlc0 j v hj)
        have HIN := Lib.hid hin
        clear hxe hlc0 hdr hin hkl
        have hp0 : (0 : Int) ≤ (k : Int) := by omega
        have hp1 : (k : Int) < (n : Int) := by omega
        go_upto_region 8 with (first
              | (refine wpList_load_row_ rfl 46 (.tmp 16) rfl (ad.add (k * 3)) rfl (wC x) _ hlc Try.underlying46 rfl (by rw [w_info]; rfl) ?_)
              | (refine wpList_store_blk rfl 46 (.tmp 8) (.tmp 17) rfl rfl wr.heap.size (wC x).toArray rfl rfl _ _ (Blk.new wr _ _) rfl (by kernel_rfl) (wC_one x) ?_; intro w3 hb3 hg3; have hx3 : Ext wr w3 := ((Ext.refl _).alloc _).grown_ hg3 (by simp)))
        obtain ⟨g8, hg8⟩ : ∃ g8, g8 = wr.heap.size := ⟨_, rfl⟩
        rw [← hg8] at hb3 HOLT ⊢
        have hg8B : Bq ≤ g8 := by rw [hg8]; exact hBw
        have hB3w : Bq ≤ w3.heap.size := Nat.le_trans hBw hx3.size
        have HB8 := Lib.hid hb3
        have HB3 := Lib.hid (HB.out.ext hx3)
        have HO3 := Lib.hid (HO.out.ext hx3)
        have HX3 := Lib.hid (hx.trans hx3)
        clear hlc hg3 hb3 hg8 HO HB hx hBw HI
        obtain ⟨x0, x1, x2⟩ := x
        have k0 : w3.cell? ⟨g8, 0, none⟩ = some (.string x0) := by rw [HB8.out.cell]; rfl
        have d0 : w3.cell? ⟨g3, 0, none⟩ = some (.string y0) := by rw [HB3.out.cell]; rfl
        cases done
        · cases q1 : klt x0 y0 with
          | true =>
            have b1 : Op.bytesLess x0.toList y0.toList = true := q1
            have b2 : Op.bytesLess y0.toList x0.toList = false := klt_asymm q1
            have q2 := klt_ne q1
            have b3 : (x0.toList == y0.toList) = false := by rw [beq_eq_false_iff_ne]; exact fun e => q2 (kl_inj e)
            have b4 : (y0.toList == x0.toList) = false := by rw [beq_eq_false_iff_ne]; exact fun e => q2 (kl_inj e).symm
            go_wp2_with (first
              | (refine wpList_load_row_ rfl 46 (.tmp 8) rfl ⟨g8, 0, none⟩ rfl [.string x0, .string x1, .bool x2] _ (blk_cells HB8.out) Try.underlying46 rfl (by rw [w_info]; rfl) ?_)
              | (at_builtin; refine wpList_append_w _ rfl (.tmp 36) (.tmp 38) rfl Bq (.slice A5 (out.length) c5) (out) rfl (HO3.out.ext ((Ext.refl w3).alloc (.cells (wC (x0, x1, x2)).toArray 46))) (some ⟨w3.heap.size, 0, none⟩) 1 1 [(x0, x1, x2)] rfl rfl (Blk.new w3 46 (wC (x0, x1, x2)).toArray).cells (by have := hol; first | omega | (rw [List.length_append]; simp only [List.length_cons, List.length_nil]; omega)) (Nat.le_trans hB3w ((Ext.refl w3).alloc (.cells (wC (x0, x1, x2)).toArray 46)).size) ?_; intro v5 w5 ho5 hg5 _; have hxl5 := (Ext.refl w3).alloc (.cells (wC (x0, x1, x2)).toArray 46); have hol5 := fun j hj => (own_lt (HO3.out.ext hxl5) hj : Bq ≤ j ∧ _).1; have HX5 := Lib.hid ((HX3.out.trans hxl5).grown_ hg5 (fun j e => Nat.le_trans hwB (hol5 j e))); have HB35 := Lib.hid ((HB3.out.ext hxl5).grown hg5 (fun e => by have := hol5 g3 e.symm; omega)); have hBw5 := (show Bq ≤ w5.heap.size from Nat.le_trans hB3w (Nat.le_trans hxl5.size hg5.size)); obtain ⟨A5, c5, rfl, _, _, _⟩ := ho5.form; rw [show ((out) ++ [(x0, x1, x2)]).length = out.length + 1 from (by simp)] at ho5 ⊢; have HO5 := Lib.hid ho5; clear ho5 hg5 hxl5 hol5))
            go_roundw
            case rel => exact ⟨k + 1, false, out ++ [(x0, x1, x2)], by omega, by go_num, rfl, by first | omega | (simp only [List.length_append, List.length_cons, List.length_nil]; omega), HO5, Lib.hid (by rw [HIN.out]; simp [q1, q2]), HX5.out, HB35, hBw5⟩
            case measure => simp [intOf]; omega
          | false =>
            by_cases q2 : x0 = y0
            · have b1 : Op.bytesLess x0.toList y0.toList = false := q1
              have b2 : Op.bytesLess y0.toList x0.toList = false := by rw [← q2]; exact klt_irrefl x0
              have b3 : (x0.toList == y0.toList) = true := by rw [q2]; exact beq_self_eq_true _
              have b4 : (y0.toList == x0.toList) = true := by rw [q2]; exact beq_self_eq_true _
              have HQ := Lib.hid q2
              clear q2
              go_wp2_with (first
                | (refine wpList_load_row_ rfl 46 (.tmp 3) rfl ⟨g3, 0, none⟩ rfl [.string y0, .string ByteArray.empty, .bool true] _ (blk_cells HB3.out) Try.underlying46 rfl (by rw [w_info]; rfl) ?_)
                | (at_builtin; refine wpList_append_w _ rfl (.tmp 27) (.tmp 29) rfl Bq (.slice A5 (out.length) c5) (out) rfl (HO3.out.ext ((Ext.refl w3).alloc (.cells (wC (y0, ByteArray.empty, true)).toArray 46))) (some ⟨w3.heap.size, 0, none⟩) 1 1 [(y0, ByteArray.empty, true)] rfl rfl (Blk.new w3 46 (wC (y0, ByteArray.empty, true)).toArray).cells (by have := hol; first | omega | (rw [List.length_append]; simp only [List.length_cons, List.length_nil]; omega)) (Nat.le_trans hB3w ((Ext.refl w3).alloc (.cells (wC (y0, ByteArray.empty, true)).toArray 46)).size) ?_; intro v4 w4 ho4 hg4 _; have hxl4 := (Ext.refl w3).alloc (.cells (wC (y0, ByteArray.empty, true)).toArray 46); have hol4 := fun j hj => (own_lt (HO3.out.ext hxl4) hj : Bq ≤ j ∧ _).1; have HX4 := Lib.hid ((HX3.out.trans hxl4).grown_ hg4 (fun j e => Nat.le_trans hwB (hol4 j e))); have HB34 := Lib.hid ((HB3.out.ext hxl4).grown hg4 (fun e => by have := hol4 g3 e.symm; omega)); have HB84 := Lib.hid ((HB8.out.ext hxl4).grown hg4 (fun e => by have := HOLT.out g8 e.symm; omega)); have kk0 := (show w4.cell? ⟨g8, 0, none⟩ = some (.string x0) from by rw [HB84.out.cell]; rfl); have dd0 := (show w4.cell? ⟨g3, 0, none⟩ = some (.string y0) from by rw [HB34.out.cell]; rfl); have hBw4 := Nat.le_trans hB3w (Nat.le_trans hxl4.size hg4.size); obtain ⟨A4, c4, rfl, _, _, _⟩ := ho4.form; rw [show ((out) ++ [(y0, ByteArray.empty, true)]).length = out.length + 1 from (by simp)] at ho4 ⊢; have HO4 := Lib.hid ho4; clear ho4 hg4 hxl4 hol4))
              go_roundw
              case rel => exact ⟨k + 1, true, out ++ [(y0, ByteArray.empty, true)], by omega, by go_num, rfl, by first | omega | (simp only [List.length_append, List.length_cons, List.length_nil]; omega), HO4, Lib.hid (by rw [HIN.out]; simp [HQ.out, klt_irrefl]), HX4.out, HB34, hBw4⟩
              case measure => simp [intOf]; omega
            · have b1 : Op.bytesLess x0.toList y0.toList = false := q1
              have b2 : Op.bytesLess y0.toList x0.toList = true := klt_or q1 (Ne.symm q2)
              have b3 : (x0.toList == y0.toList) = false := by rw [beq_eq_false_iff_ne]; exact fun e => q2 (kl_inj e)
              have b4 : (y0.toList == x0.toList) = false := by rw [beq_eq_false_iff_ne]; exact fun e => q2 (kl_inj e).symm
              go_wp2_with (first
                | (refine wpList_load_row_ rfl 46 (.tmp 3) rfl ⟨g3, 0, none⟩ rfl [.string y0, .string ByteArray.empty, .bool true] _ (blk_cells HB3.out) Try.underlying46 rfl (by rw [w_info]; rfl) ?_)
                | (at_builtin; refine wpList_append_w _ rfl (.tmp 27) (.tmp 29) rfl Bq (.slice A5 (out.length) c5) (out) rfl (HO3.out.ext ((Ext.refl w3).alloc (.cells (wC (y0, ByteArray.empty, true)).toArray 46))) (some ⟨w3.heap.size, 0, none⟩) 1 1 [(y0, ByteArray.empty, true)] rfl rfl (Blk.new w3 46 (wC (y0, ByteArray.empty, true)).toArray).cells (by have := hol; first | omega | (rw [List.length_append]; simp only [List.length_cons, List.length_nil]; omega)) (Nat.le_trans hB3w ((Ext.refl w3).alloc (.cells (wC (y0, ByteArray.empty, true)).toArray 46)).size) ?_; intro v4 w4 ho4 hg4 _; have hxl4 := (Ext.refl w3).alloc (.cells (wC (y0, ByteArray.empty, true)).toArray 46); have hol4 := fun j hj => (own_lt (HO3.out.ext hxl4) hj : Bq ≤ j ∧ _).1; have HX4 := Lib.hid ((HX3.out.trans hxl4).grown_ hg4 (fun j e => Nat.le_trans hwB (hol4 j e))); have HB34 := Lib.hid ((HB3.out.ext hxl4).grown hg4 (fun e => by have := hol4 g3 e.symm; omega)); have HB84 := Lib.hid ((HB8.out.ext hxl4).grown hg4 (fun e => by have := HOLT.out g8 e.symm; omega)); have kk0 := (show w4.cell? ⟨g8, 0, none⟩ = some (.string x0) from by rw [HB84.out.cell]; rfl); have dd0 := (show w4.cell? ⟨g3, 0, none⟩ = some (.string y0) from by rw [HB34.out.cell]; rfl); have hBw4 := Nat.le_trans hB3w (Nat.le_trans hxl4.size hg4.size); obtain ⟨A4, c4, rfl, _, _, _⟩ := ho4.form; rw [show ((out) ++ [(y0, ByteArray.empty, true)]).length = out.length + 1 from (by simp)] at ho4 ⊢; have HO4 := Lib.hid ho4; clear ho4 hg4 hxl4 hol4)
                | (refine wpList_load_row_ rfl 46 (.tmp 8) rfl ⟨g8, 0, none⟩ rfl [.string x0, .string x1, .bool x2] _ (blk_cells HB84.out) Try.underlying46 rfl (by rw [w_info]; rfl) ?_)
                | (at_builtin; refine wpList_append_w _ rfl (.tmp 36) (.tmp 38) rfl Bq (.slice A4 (out.length + 1) c4) (out ++ [(y0, ByteArray.empty, true)]) rfl (HO4.out.ext ((Ext.refl w4).alloc (.cells (wC (x0, x1, x2)).toArray 46))) (some ⟨w4.heap.size, 0, none⟩) 1 1 [(x0, x1, x2)] rfl rfl (Blk.new w4 46 (wC (x0, x1, x2)).toArray).cells (by have := hol; first | omega | (rw [List.length_append]; simp only [List.length_cons, List.length_nil]; omega)) (Nat.le_trans hBw4 ((Ext.refl w4).alloc (.cells (wC (x0, x1, x2)).toArray 46)).size) ?_; intro v5 w5 ho5 hg5 _; have hxl5 := (Ext.refl w4).alloc (.cells (wC (x0, x1, x2)).toArray 46); have hol5 := fun j hj => (own_lt (HO4.out.ext hxl5) hj : Bq ≤ j ∧ _).1; have HX5 := Lib.hid ((HX4.out.trans hxl5).grown_ hg5 (fun j e => Nat.le_trans hwB (hol5 j e))); have HB35 := Lib.hid ((HB34.out.ext hxl5).grown hg5 (fun e => by have := hol5 g3 e.symm; omega)); have hBw5 := (show Bq ≤ w5.heap.size from Nat.le_trans hBw4 (Nat.le_trans hxl5.size hg5.size)); obtain ⟨A5, c5, rfl, _, _, _⟩ := ho5.form; rw [show ((out ++ [(y0, ByteArray.empty, true)]) ++ [(x0, x1, x2)]).length = out.length + 1 + 1 from (by simp)] at ho5 ⊢; have HO5 := Lib.hid ho5; clear ho5 hg5 hxl5 hol5))
              go_roundw
              case rel => exact ⟨k + 1, true, (out ++ [(y0, ByteArray.empty, true)]) ++ [(x0, x1, x2)], by omega, by go_num, rfl, by first | omega | (simp only [List.length_append, List.length_cons, List.length_nil]; omega), HO5, Lib.hid (by rw [HIN.out]; simp [q1, q2]), HX5.out, HB35, hBw5⟩
              case measure => simp [intOf]; omega
        · cases q1 : klt x0 y0 with
          | true =>
            have b1 : Op.bytesLess x0.toList y0.toList = true := q1
            have b2 : Op.bytesLess y0.toList x0.toList = false := klt_asymm q1
            have q2 := klt_ne q1
            have b3 : (x0.toList == y0.toList) = false := by rw [beq_eq_false_iff_ne]; exact fun e => q2 (kl_inj e)
            have b4 : (y0.toList == x0.toList) = false := by rw [beq_eq_false_iff_ne]; exact fun e => q2 (kl_inj e).symm
            go_wp2_with (first
              | (refine wpList_load_row_ rfl 46 (.tmp 8) rfl ⟨g8, 0, none⟩ rfl [.string x0, .string x1, .bool x2] _ (blk_cells HB8.out) Try.underlying46 rfl (by rw [w_info]; rfl) ?_)
              | (at_builtin; refine wpList_append_w _ rfl (.tmp 36) (.tmp 38) rfl Bq (.slice A5 (out.length) c5) (out) rfl (HO3.out.ext ((Ext.refl w3).alloc (.cells (wC (x0, x1, x2)).toArray 46))) (some ⟨w3.heap.size, 0, none⟩) 1 1 [(x0, x1, x2)] rfl rfl (Blk.new w3 46 (wC (x0, x1, x2)).toArray).cells (by have := hol; first | omega | (rw [List.length_append]; simp only [List.length_cons, List.length_nil]; omega)) (Nat.le_trans hB3w ((Ext.refl w3).alloc (.cells (wC (x0, x1, x2)).toArray 46)).size) ?_; intro v5 w5 ho5 hg5 _; have hxl5 := (Ext.refl w3).alloc (.cells (wC (x0, x1, x2)).toArray 46); have hol5 := fun j hj => (own_lt (HO3.out.ext hxl5) hj : Bq ≤ j ∧ _).1; have HX5 := Lib.hid ((HX3.out.trans hxl5).grown_ hg5 (fun j e => Nat.le_trans hwB (hol5 j e))); have HB35 := Lib.hid ((HB3.out.ext hxl5).grown hg5 (fun e => by have := hol5 g3 e.symm; omega)); have hBw5 := (show Bq ≤ w5.heap.size from Nat.le_trans hB3w (Nat.le_trans hxl5.size hg5.size)); obtain ⟨A5, c5, rfl, _, _, _⟩ := ho5.form; rw [show ((out) ++ [(x0, x1, x2)]).length = out.length + 1 from (by simp)] at ho5 ⊢; have HO5 := Lib.hid ho5; clear ho5 hg5 hxl5 hol5))
            go_roundw
            case rel => exact ⟨k + 1, true, out ++ [(x0, x1, x2)], by omega, by go_num, rfl, by first | omega | (simp only [List.length_append, List.length_cons, List.length_nil]; omega), HO5, Lib.hid (by rw [HIN.out]; simp [q1, q2]), HX5.out, HB35, hBw5⟩
            case measure => simp [intOf]; omega
          | false =>
            by_cases q2 : x0 = y0
            · have b1 : Op.bytesLess x0.toList y0.toList = false := q1
              have b2 : Op.bytesLess y0.toList x0.toList = false := by rw [← q2]; exact klt_irrefl x0
              have b3 : (x0.toList == y0.toList) = true := by rw [q2]; exact beq_self_eq_true _
              have b4 : (y0.toList == x0.toList) = true := by rw [q2]; exact beq_self_eq_true _
              have HQ := Lib.hid q2
              clear q2
              go_wp2
              go_roundw
              case rel => exact ⟨k + 1, true, out, by omega, by go_num, rfl, by first | omega | (simp only [List.length_append, List.length_cons, List.length_nil]; omega), HO3, Lib.hid (by rw [HIN.out]; simp [HQ.out, klt_irrefl]), HX3.out, HB3, hB3w⟩
              case measure => simp [intOf]; omega
            · have b1 : Op.bytesLess x0.toList y0.toList = false := q1
              have b2 : Op.bytesLess y0.toList x0.toList = true := klt_or q1 (Ne.symm q2)
              have b3 : (x0.toList == y0.toList) = false := by rw [beq_eq_false_iff_ne]; exact fun e => q2 (kl_inj e)
              have b4 : (y0.toList == x0.toList) = false := by rw [beq_eq_false_iff_ne]; exact fun e => q2 (kl_inj e).symm
              go_wp2_with (first
                | (refine wpList_load_row_ rfl 46 (.tmp 8) rfl ⟨g8, 0, none⟩ rfl [.string x0, .string x1, .bool x2] _ (blk_cells HB8.out) Try.underlying46 rfl (by rw [w_info]; rfl) ?_)
                | (at_builtin; refine wpList_append_w _ rfl (.tmp 36) (.tmp 38) rfl Bq (.slice A5 (out.length) c5) (out) rfl (HO3.out.ext ((Ext.refl w3).alloc (.cells (wC (x0, x1, x2)).toArray 46))) (some ⟨w3.heap.size, 0, none⟩) 1 1 [(x0, x1, x2)] rfl rfl (Blk.new w3 46 (wC (x0, x1, x2)).toArray).cells (by have := hol; first | omega | (rw [List.length_append]; simp only [List.length_cons, List.length_nil]; omega)) (Nat.le_trans hB3w ((Ext.refl w3).alloc (.cells (wC (x0, x1, x2)).toArray 46)).size) ?_; intro v5 w5 ho5 hg5 _; have hxl5 := (Ext.refl w3).alloc (.cells (wC (x0, x1, x2)).toArray 46); have hol5 := fun j hj => (own_lt (HO3.out.ext hxl5) hj : Bq ≤ j ∧ _).1; have HX5 := Lib.hid ((HX3.out.trans hxl5).grown_ hg5 (fun j e => Nat.le_trans hwB (hol5 j e))); have HB35 := Lib.hid ((HB3.out.ext hxl5).grown hg5 (fun e => by have := hol5 g3 e.symm; omega)); have hBw5 := (show Bq ≤ w5.heap.size from Nat.le_trans hB3w (Nat.le_trans hxl5.size hg5.size)); obtain ⟨A5, c5, rfl, _, _, _⟩ := ho5.form; rw [show ((out) ++ [(x0, x1, x2)]).length = out.length + 1 from (by simp)] at ho5 ⊢; have HO5 := Lib.hid ho5; clear ho5 hg5 hxl5 hol5))
              go_roundw
              case rel => exact ⟨k + 1, true, out ++ [(x0, x1, x2)], by omega, by go_num, rfl, by first | omega | (simp only [List.length_append, List.length_cons, List.length_nil]; omega), HO5, Lib.hid (by rw [HIN.out]; simp [q1, q2]), HX5.out, HB35, hBw5⟩
              case measure => simp [intOf]; omega
      · obtain rfl : n = k := by omega
        have hin := HI.out
        rw [← Hn.out, List.drop_length] at hin
        have HIN := Lib.hid hin
        have HO3 := HO
        have HX3 := Lib.hid hx
        have HB3 := HB
        clear hin HI
        cases done
        · go_wp2_with (first
            | (refine wpList_load_row_ rfl 46 (.tmp 3) rfl ⟨g3, 0, none⟩ rfl [.string y0, .string ByteArray.empty, .bool true] _ (blk_cells HB3.out) Try.underlying46 rfl (by rw [w_info]; rfl) ?_)
            | (at_builtin; refine wpList_append_w _ rfl (.tmp 43) (.tmp 45) rfl Bq (.slice A5 (out.length) c5) (out) rfl (HO3.out.ext ((Ext.refl wr).alloc (.cells (wC (y0, ByteArray.empty, true)).toArray 46))) (some ⟨wr.heap.size, 0, none⟩) 1 1 [(y0, ByteArray.empty, true)] rfl rfl (Blk.new wr 46 (wC (y0, ByteArray.empty, true)).toArray).cells (by have := hol; first | omega | (rw [List.length_append]; simp only [List.length_cons, List.length_nil]; omega)) (Nat.le_trans hBw ((Ext.refl wr).alloc (.cells (wC (y0, ByteArray.empty, true)).toArray 46)).size) ?_; intro v5 w5 ho5 hg5 _; have hxl5 := (Ext.refl wr).alloc (.cells (wC (y0, ByteArray.empty, true)).toArray 46); have hol5 := fun j hj => (own_lt (HO3.out.ext hxl5) hj : Bq ≤ j ∧ _).1; have HX5 := Lib.hid ((HX3.out.trans hxl5).grown_ hg5 (fun j e => Nat.le_trans hwB (hol5 j e))); have HB35 := Lib.hid ((HB3.out.ext hxl5).grown hg5 (fun e => by have := hol5 g3 e.symm; omega)); have hBw5 := (show Bq ≤ w5.heap.size from Nat.le_trans hBw (Nat.le_trans hxl5.size hg5.size)); obtain ⟨A5, c5, rfl, _, _, _⟩ := ho5.form; rw [show ((out) ++ [(y0, ByteArray.empty, true)]).length = out.length + 1 from (by simp)] at ho5 ⊢; have HO5 := Lib.hid ho5; clear ho5 hg5 hxl5 hol5))
          go_ret
          refine ⟨_, rfl, ?_, HX5.out⟩
          rw [HIN.out]
          exact HO5.out.lower hwB
        · go_wp2
          go_ret
          refine ⟨_, rfl, ?_, hx⟩
          rw [HIN.out]
          show OwnW _ _ _ (out ++ [])
          rw [List.append_nil]
          exact HO.out.lower hwB
end Go.Proofs.Ytnggdkpaofbaaaa
