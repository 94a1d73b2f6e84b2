/- ShaKeeps: what is handed in stays, its spare room too: the walk of the law. -/
import Derived.Test.YtfjponmpjofbkaaDoorShaLaw
import Derived.Test.YtfjponmpjofbkaaDoorAppZero
import Derived.Deep.RegionHeld3
namespace Go.Proofs.YtfjponmpjofbkaaDoor
open Go.RowKit
set_option linter.unusedVariables false

theorem keeps_out (A : Option Addr) (n c : Nat) (B : Option Addr) (m d : Nat) (w : World) (hT : Tab w) (hn : n ≤ 140737488351232) (hm : m ≤ 140737488351232) (h : 4096 < n ∨ 4096 < m) :
    Calls Tryd.prog 5 #[.slice A n c, .slice B m d] w fun e w' => e = .returned (.bool true) ∧ Ext w w' := by
  by_cases h1 : 4096 < n
  · go_enter Tryd.func5, Tryd.ntmps5
    go_wp2_with (go_at_call 8; ((with_reducible refine (sha_alive _ hT).mono ?_); rintro e w1 ⟨rfl, hx1⟩))
    go_ret
    exact ⟨rfl, hx1⟩
  · have h2 : 4096 < m := by omega
    go_enter Tryd.func5, Tryd.ntmps5
    go_wp2_with (go_at_call 8; ((with_reducible refine (sha_alive _ hT).mono ?_); rintro e w1 ⟨rfl, hx1⟩))
    go_ret
    exact ⟨rfl, hx1⟩

/-- append(x, make([]byte, n)...), x the call's own. -/
theorem wpList_append_zeros (w : World) {ops : Array Oper} {rest : List Oper} {o : Oper} {a : Act} {Q : Exit → Act → World → Prop} (hgd : o.guard = none) (s x : Operand)
    (ho : o.op = .call { callee := .builtin .append, args := #[s, x], argTypes := #[24, 3] })
    (B : Nat) (v : Value) (xs : List UInt8) (hs : a.eval s = v) (hown : Own B w v xs) (n : Nat) (L : Int) (hx : a.eval x = .int .i64 L) (hL : L = (n : Int)) (hn : 0 < n)
    (hlen : xs.length + n ≤ 140737488355328) (hbase : B ≤ w.heap.size)
    (h : ∀ v' w', Own B w' v' (xs ++ List.replicate n 0) → w.grownBy w' v.ownBlock → wpList Tryd.prog ops Q rest (a.put o.dst v') w') : wpList Tryd.prog ops Q (o :: rest) a w := by
  subst hL
  obtain ⟨i, hi0, hz, hsize, hby⟩ := info_parts u8_info
  have hbs : (bstr (List.replicate n 0)).size = n := by rw [bstr_size, List.length_replicate]
  obtain ⟨A1, c1, hv, _, _, _⟩ := hown.form
  obtain ⟨v', w', hrun, h2, h3, _⟩ := Lib.run_append_own_string (P := Tryd.prog) w B 24 9 o.type 5 i Tryd.underlying24 Tryd.underlying9 hi0 hz hsize hby v xs.length (bv xs) hown (bstr (List.replicate n 0)) (by rw [hbs]; simp only [maxLen]; omega) (by rw [hbs]; exact hlen) hbase
  have hz0 := run_append_zeros (P := Tryd.prog) w 24 3 9 o.type 5 i Tryd.underlying24 Tryd.underlying3 Tryd.underlying9 hi0 hz hsize hby A1 xs.length c1 n hn hlen
  rw [← hv] at hz0
  rw [hrun] at hz0
  refine wpList_plain hgd fun _ hK => ?_
  unfold Oper.wp execOp
  simp only [ho, resolve, invoke, builtin, Sem.run_bind, Sem.run_pure, Result.andThen_ok, List.map_toArray, List.map_cons, List.map_nil, hs, hx, hz0]
  refine hK _ _ (h v' w' ?_ h3)
  unfold Own
  rw [bv_append, List.length_append, List.length_replicate]
  rw [hbs] at h2
  have e : Lib.strCells (bstr (List.replicate n 0)) = bv (List.replicate n 0) := by rw [Lib.strCells, bstr_data]; rfl
  rw [e] at h2
  exact h2

theorem range_ext {w w' : World} {g : Nat} {cs : List Value} (h : w.rangeAt g 0 cs) (k : Ext w w') : w'.rangeAt g 0 cs := fun j v hv => k.cell (h j v hv)
theorem range_of {w : World} {g : Nat} {t : TypeId} {bs : List UInt8} (h : Blk w g t (dgv bs)) : w.rangeAt g 0 (bv (sha bs)) := fun j v hv => by
  rw [Nat.zero_add, Blk.cell h, dgv, ← Array.getElem?_toList, List.toList_toArray]
  exact hv

set_option maxHeartbeats 8000000 in
theorem keeps_calls (A : Option Addr) (c : Nat) (xs : List UInt8) (B : Option Addr) (d : Nat) (ys : List UInt8) (w : World) (ha : Cells w A (bv xs)) (hlc : xs.length ≤ c) (hn : xs.length ≤ 140737488351232)
    (hb : Cells w B (bv ys)) (hld : ys.length ≤ d) (hm : ys.length ≤ 140737488351232) (hT : Tab w) :
    Calls Tryd.prog 5 #[.slice A xs.length c, .slice B ys.length d] w fun e w' => e = .returned (.bool true) ∧ Ext w w' := by
  by_cases hout : 4096 < xs.length ∨ 4096 < ys.length
  · exact keeps_out A _ c B _ d w hT hn hm hout
  obtain ⟨n, hxn⟩ : ∃ n, xs.length = n := ⟨_, rfl⟩
  obtain ⟨m, hym⟩ : ∃ m, ys.length = m := ⟨_, rfl⟩
  rw [hxn, hym] at hout
  rw [hxn] at hlc hn ⊢
  rw [hym] at hld hm ⊢
  have g1 : n ≤ 4096 := by omega
  have g2 : m ≤ 4096 := by omega
  have Hxn := Lib.hid hxn
  have Hym := Lib.hid hym
  clear hout hxn hym
  have heq := dg_eq (xs ++ ys)
  have hfl : [xs, ys].flatten = xs ++ ys := by simp
  have hle : (xs ++ ys).length ≤ 1048576 := by rw [List.length_append, Hxn.out, Hym.out]; omega
  obtain ⟨F, hF⟩ : ∃ F, n + 80 = F := ⟨_, rfl⟩
  have hFl : (xs ++ List.replicate 80 0).length = F := by rw [List.length_append, Hxn.out, List.length_replicate, hF]
  have hnF : n ≤ F := by omega
  have hF2 : F ≤ 8192 := by omega
  have HFl := Lib.hid hFl
  have HF := Lib.hid hF
  clear hF hFl
  go_enter Tryd.func5, Tryd.ntmps5
  go_wp2_with (first
    | (go_at_call 8; ((with_reducible refine (sha_alive _ hT).mono ?_); rintro e w1 ⟨rfl, hx1⟩; have lit0 : Own w1.heap.size (w1.alloc (.cells #[] 5)) (.slice (some ⟨w1.heap.size, 0, none⟩) 0 0) [] := Own.lit [] #[] rfl (Nat.le_refl _) (by simp [maxLen])))
    | (at_builtin; refine wpList_append_u8 _ rfl (.tmp 19) (.tmp 20) rfl w1.heap.size (.slice (some ⟨w1.heap.size, 0, none⟩) 0 0) [] rfl lit0 A n c xs rfl Hxn.out ((ha.ext hx1).ext ((Ext.refl _).alloc _)) (by simp; omega) (by simp) ?_; intro v2 w2 own2 hg2 _; have hx2 : Ext w1 w2 := lit0.grows ((Ext.refl _).alloc _) hg2; rw [List.nil_append] at own2; clear hg2)
    | (at_builtin; refine wpList_append_zeros _ rfl (.tmp 21) (.const (.int .i64 80)) rfl w1.heap.size v2 xs rfl own2 80 _ rfl rfl (by decide) (by rw [Hxn.out]; omega) hx2.size ?_; intro v3 w3 own3 hg3; have hx3 : Ext w1 w3 := own2.grows hx2 hg3; clear hg3; obtain ⟨A3, c3, hv3, hl3, hm3, hc3⟩ := Own.form_at own3 HFl.out; subst hv3; have hxx3 := hx1.trans hx3; have hq3 : Cells w3 A3 (bv xs) := (by have q := hc3.take n; rw [bv_take, List.take_append_of_le_length (by rw [Hxn.out]; omega), List.take_of_length_le (by rw [Hxn.out]; omega)] at q; exact q))
    | (go_at_call 9; ((with_reducible refine (shaOf_calls _ 2 2 [xs, ys] (xs ++ ys) _ (BSs.two (Cells.lit rfl [_, _] _ _) (BS.of Hxn.out (by omega) (hq3.ext ((Ext.refl _).alloc _))) (BS.of Hym.out hld ((hb.ext hxx3).ext ((Ext.refl _).alloc _)))) rfl hfl (by decide) hle (hT.ext (hxx3.alloc _))).mono ?_); rintro e w4 ⟨rfl, hx4⟩; have hxx4 := (hxx3.alloc _).trans hx4; have hc4 := (hc3.ext ((Ext.refl _).alloc _)).ext hx4))
    | (refine wpList_store_blk rfl 25 (.tmp 6) (.tmp 29) rfl rfl w4.heap.size _ rfl rfl _ _ (Blk.new_at rfl _ _) (dgv_size _) (by kernel_rfl) ?_ ?_; (exact dgv_cells _); intro w5 hb5 hg5; have hx5 : Ext w4 w5 := ((Ext.refl _).alloc _).grown_ hg5 (by simp); have hxx5 := hxx4.trans hx5; have hc5 := hc4.ext hx5; clear hg5))
  have e1 : decide ((4096 : Int) < (n : Int)) = false := decide_eq_false (by omega)
  have e2 : decide ((4096 : Int) < (m : Int)) = false := decide_eq_false (by omega)
  rw [e1, e2, Bool.or_false]
  clear e1 e2 hc3 hc4 hq3
  go_loopw [32] (fun i wr => ∃ k : Nat, k ≤ F ∧ i = .int .i64 k ∧ wr = w5) (fun i _ => F - (intOf i).toNat)
  case atStart => exact ⟨0, by omega, rfl, rfl⟩
  case round =>
    obtain ⟨k, hk, rfl, hwe⟩ := hrel
    replace hwe := hwe.symm
    subst hwe
    by_cases hlt : k < F
    · obtain ⟨x3, rfl, hcell⟩ := hc5.byte (i := k) (by rw [HFl.out]; exact hlt)
      by_cases hkn : k < n
      · have hkn' : (k : Int) < (n : Int) := by omega
        obtain ⟨xa, rfl, hcella⟩ := (ha.ext hxx5).byte (i := k) (by rw [Hxn.out]; exact hkn)
        have eu : (xs ++ List.replicate 80 0)[k]'(by rw [HFl.out]; exact hlt) = xs[k]'(by rw [Hxn.out]; exact hkn) := List.getElem_append_left _
        rw [eu] at hcell
        generalize xs[k]'(by rw [Hxn.out]; exact hkn) = u at hcell hcella
        clear eu
        go_wp2
        go_roundw
        case rel => exact ⟨k + 1, by omega, by go_num, trivial⟩
        case measure => simp [intOf]; omega
      · have hkn' : (n : Int) ≤ (k : Int) := by omega
        have eu : (xs ++ List.replicate 80 0)[k]'(by rw [HFl.out]; exact hlt) = 0 := by rw [List.getElem_append_right (by rw [Hxn.out]; omega), List.getElem_replicate]
        rw [eu] at hcell
        clear eu
        go_wp2
        go_roundw
        case rel => exact ⟨k + 1, by omega, by go_num, trivial⟩
        case measure => simp [intOf]; omega
    · obtain rfl : k = F := by omega
      have r5 : w5.drew.rangeAt w4.heap.size 0 (bv (sha (xs ++ ys))) := range_ext (range_of hb5) (Ext.refl _).drew
      have r5a : ∀ o, (w5.alloc o).drew.rangeAt w4.heap.size 0 (bv (sha (xs ++ ys))) := fun o => range_ext (range_of hb5) ((Ext.refl _).alloc o).drew
      have hu := Tryd.underlying25
      have hi : (Tryd.prog.info? 25).map (·.size) = some (bv (sha (xs ++ ys))).length := by rw [bv_len, sha_len]; kernel_rfl
      have heq2 : ∀ w, (Op.equalIn 10000 25 (.agg (bv (sha (xs ++ ys))).toArray) (.agg (dgv (xs ++ ys)))).run Tryd.prog w = .ok true w := heq
      have hd5 : ∀ o, Ext w (w5.alloc o).drew := fun o => (hxx5.alloc o).drew
      have hab : BS w (.slice A n c) xs := BS.of Hxn.out hlc ha
      have hbb : BS w (.slice B m d) ys := BS.of Hym.out hld hb
      clear heq hc5 hb5
      go_wp2
      go_region_held3 (fun w' => w'.rangeAt w4.heap.size 0 (bv (sha (xs ++ ys))))
        (first | exact r5 | exact r5a _ | exact r6)
        (first
        | (go_at_call 9; (with_reducible refine (shaOf_calls _ 2 2 [xs, ys] (xs ++ ys) _ (BSs.two ((Cells.lit rfl [_, _] _ _).ext (Ext.refl _).drew) (hab.ext (hd5 _)) (hbb.ext (hd5 _))) rfl hfl (by decide) hle (hT.ext (hd5 _))).mono ?_); rintro e w6 ⟨rfl, hx6⟩; have hxx6 := (hd5 _).trans hx6; have r6 := range_ext (r5a _) hx6))
      all_goals (go_wp2; go_ret; exact ⟨rfl, hxx6⟩)
end Go.Proofs.YtfjponmpjofbkaaDoor
