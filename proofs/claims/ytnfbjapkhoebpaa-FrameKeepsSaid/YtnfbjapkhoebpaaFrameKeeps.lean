/- FrameKeeps: what is handed in stays, its spare room too: the walk of the law. -/
import Derived.Test.YtnfbjapkhoebpaaFrameWhole
import Derived.Test.YtnfbjapkhoebpaaAppZero
import Derived.Deep.RegionHeld3
namespace Go.Proofs.Ytnfbjapkhoebpaa
open Go.RowKit
set_option linter.unusedVariables false

/-- append(x, make([]byte, n)...), x the call's own. -/
theorem wpList_append_zeros (w : World) {ops : Array Oper} {rest : List Oper} {o : Oper} {a : Act} {Q : Exit → Act → World → Prop} (hgd : o.guard = none) (s x : Operand)
    (ho : o.op = .call { callee := .builtin .append, args := #[s, x], argTypes := #[22, 3] })
    (B : Nat) (v : Value) (xs : List UInt8) (hs : a.eval s = v) (hown : Own B w v xs) (n : Nat) (L : Int) (hx : a.eval x = .int .i64 L) (hL : L = (n : Int)) (hn : 0 < n)
    (hlen : xs.length + n ≤ 140737488355328) (hbase : B ≤ w.heap.size)
    (h : ∀ v' w', Own B w' v' (xs ++ List.replicate n 0) → w.grownBy w' v.ownBlock → wpList Try.prog ops Q rest (a.put o.dst v') w') : wpList Try.prog ops Q (o :: rest) a w := by
  subst hL
  obtain ⟨i, hi0, hz, hsize, hby⟩ := info_parts u8_info
  have hbs : (bstr (List.replicate n 0)).size = n := by rw [bstr_size, List.length_replicate]
  obtain ⟨A1, c1, hv, _, _, _⟩ := hown.form
  obtain ⟨v', w', hrun, h2, h3, _⟩ := Lib.run_append_own_string (P := Try.prog) w B 22 9 o.type 5 i Try.underlying22 Try.underlying9 hi0 hz hsize hby v xs.length (bv xs) hown (bstr (List.replicate n 0)) (by rw [hbs]; simp only [maxLen]; omega) (by rw [hbs]; exact hlen) hbase
  have hz0 := run_append_zeros (P := Try.prog) w 22 3 9 o.type 5 i Try.underlying22 Try.underlying3 Try.underlying9 hi0 hz hsize hby A1 xs.length c1 n hn hlen
  rw [← hv] at hz0
  rw [hrun] at hz0
  refine wpList_plain hgd fun _ hK => ?_
  unfold Oper.wp execOp
  simp only [ho, resolve, invoke, builtin, Sem.run_bind, Sem.run_pure, Result.andThen_ok, List.map_toArray, List.map_cons, List.map_nil, hs, hx, hz0]
  refine hK _ _ (h v' w' ?_ h3)
  unfold Own
  rw [hbs] at h2
  have e : Lib.strCells (bstr (List.replicate n 0)) = bv (List.replicate n 0) := by rw [Lib.strCells, bstr_data]; rfl
  rw [e] at h2
  rw [List.length_append, List.length_replicate, bv_append]
  exact h2

theorem bv_take_ (bs : List UInt8) (k : Nat) : bv (bs.take k) = (bv bs).take k := by simp [bv]

theorem Own.set_at {B : Nat} {w : World} {g n cc : Nat} {bs : List UInt8} (h : Own B w (.slice (some ⟨g, 0, none⟩) n cc) bs) (hn : bs.length = n) (k : Nat) (x : UInt8) :
    Own B (w.setCell ⟨g, k, none⟩ (.int .u8 x.toNat)) (.slice (some ⟨g, 0, none⟩) n cc) (bs.set k x) ∧ w.grownBy (w.setCell ⟨g, k, none⟩ (.int .u8 x.toNat)) (some g) := by
  subst hn
  exact h.set k x
theorem Own.cell_at {B : Nat} {w : World} {g n cc : Nat} {bs : List UInt8} (h : Own B w (.slice (some ⟨g, 0, none⟩) n cc) bs) (hn : bs.length = n) {k : Nat} (hk : k < bs.length) : w.cell? ⟨g, k, none⟩ = some (.int .u8 bs[k].toNat) := by
  subst hn
  exact h.cell hk

set_option maxRecDepth 50000 in
set_option maxHeartbeats 8000000 in
theorem frameKeeps_calls (A : Option Addr) (n c : Nat) (bs : List UInt8) (s : ByteArray) (w : World) (hb : Cells w A (bv bs)) (hn : bs.length = n) (hc : n ≤ c) (hl : n ≤ 140737488351232) (hs : s.size ≤ 140737488351232) :
    Calls Try.prog 6 #[.slice A n c, .string s] w fun e w' => e = .returned (.bool true) ∧ Ext w w' := by
  by_cases h1 : 4096 < n
  · go_enter Try.func6, Try.ntmps6
    go_wp2_with (go_at_call 8; (with_reducible refine (frame_alive _).mono ?_); rintro e w1 ⟨rfl, hx1⟩)
    go_ret
    exact ⟨rfl, hx1⟩
  by_cases h2 : 1024 < s.size
  · go_enter Try.func6, Try.ntmps6
    go_wp2_with (go_at_call 8; (with_reducible refine (frame_alive _).mono ?_); rintro e w1 ⟨rfl, hx1⟩)
    go_ret
    exact ⟨rfl, hx1⟩
  obtain ⟨t, ht⟩ : ∃ t, t = s.data.toList := ⟨_, rfl⟩
  have hts : s = bstr t := by rw [ht, bstr_of]
  subst hts
  clear ht
  rw [bstr_size] at hs h2
  have htz := bstr_size t
  obtain ⟨Z, hZ⟩ : ∃ Z, t.length = Z := ⟨_, rfl⟩
  rw [hZ] at hs h2 htz
  have hfl : (fr t).length ≤ Z + 14 := by
    rw [fr_len, textB_len, hZ]; have := sizeN_64 (n := Z) (by omega); omega
  obtain ⟨f, hf⟩ : ∃ f, f = fr t := ⟨_, rfl⟩
  have hput := fun A' c' w' h hc' => fput_calls A' n c' bs (bstr t) w' h hn hc' (by rw [bstr_size, hZ]; omega)
  have hfrm := fun w' => frframe_calls t w' (by omega)
  simp only [bstr_data] at hput
  simp only [← hf] at hput hfrm
  rw [← hf] at hfl
  have hz1 : (bstr bs).size ≤ 4096 := by rw [bstr_size]; omega
  have hz2 : (bstr f).size ≤ 5000 := by rw [bstr_size]; omega
  have happ := bstr_append bs f
  obtain ⟨L, hL⟩ : ∃ L, (bs ++ f).length = L := ⟨_, rfl⟩
  obtain ⟨F, hF⟩ : ∃ F, n + (Z + 20) = F := ⟨_, rfl⟩
  have hFl : (bs ++ List.replicate (Z + 20) 0).length = F := by rw [List.length_append, hn, List.length_replicate, hF]
  have hspl := fun A' c' w' h hc' => fsplit_calls A' F c' (bs ++ List.replicate (Z + 20) 0) w' h hFl hc' (by omega)
  have hnF : n ≤ F := by omega
  have hF2 : F ≤ 8192 := by omega
  have hF0 : 0 < F := by omega
  have HFl := Lib.hid hFl
  have HF := Lib.hid hF
  have Hn := Lib.hid hn
  have HL := Lib.hid hL
  clear hF hFl hn hf hL
  go_enter Try.func6, Try.ntmps6
  go_wp2_with (first
    | (go_at_call 8; (with_reducible refine (frame_alive _).mono ?_); rintro e w1 ⟨rfl, hx1⟩; have lit0 : Own w1.heap.size (w1.alloc (.cells #[] 5)) (.slice (some ⟨w1.heap.size, 0, none⟩) 0 0) [] := Own.lit [] #[] rfl (Nat.le_refl _) (by simp [maxLen]))
    | (at_builtin; refine wpList_append_u8 _ rfl (.tmp 20) (.tmp 21) rfl w1.heap.size (.slice (some ⟨w1.heap.size, 0, none⟩) 0 0) [] rfl lit0 A n c bs rfl Hn.out ((hb.ext hx1).ext ((Ext.refl _).alloc _)) (by simp; omega) (by simp) ?_; intro v2 w2 own2 hg2 _; have hx2 : Ext w1 w2 := lit0.grows ((Ext.refl _).alloc _) hg2; rw [List.nil_append] at own2; clear hg2)
    | (at_builtin; refine wpList_append_zeros _ rfl (.tmp 22) (.tmp 25) rfl w1.heap.size v2 bs rfl own2 (Z + 20) _ rfl (by omega) (by omega) (by rw [Hn.out]; omega) hx2.size ?_; intro v3 w3 own3 hg3; have hx3 : Ext w1 w3 := own2.grows hx2 hg3; clear hg3; obtain ⟨g, c3, hv3, hg3, hgl3, hl3⟩ := own3.some_ (by rw [HFl.out]; omega); rw [HFl.out] at hv3 hl3; subst hv3; have hxx3 := hx1.trans hx3; have hc3 := own3.cells; have hq3 : Cells w3 (some ⟨g, 0, none⟩) (bv bs) := (by have q := hc3.take n; rw [← bv_take_, List.take_append_of_le_length (by rw [Hn.out]; omega), List.take_of_length_le (by rw [Hn.out]; omega)] at q; exact q); have hnc3 : n ≤ c3 := by omega)
    | (go_at_call 11; (with_reducible refine (hput _ _ _ hq3 hnc3).mono ?_); rintro e w4 ⟨v4, rfl, own4, hx4⟩; obtain ⟨A4, c4, rfl, hc4, hm4, hb4⟩ := own4.form_at HL.out)
    | (go_at_call 13; (with_reducible refine (hspl _ _ _ (hc3.ext hx4) hl3).mono ?_); rintro e w5 ⟨v5, rfl, own5, hx5⟩; have hx35 := hx4.trans hx5; have hxx5 := hxx3.trans hx35; have hc5 := hc3.ext hx35; have own35 := own3.ext hx35; have hb5 := hb4.ext hx5))
  have e1 : decide ((4096 : Int) < (n : Int)) = false := decide_eq_false (by omega)
  have e2 : decide ((1024 : Int) < (Z : Int)) = false := decide_eq_false (by omega)
  rw [e1, e2, Bool.or_false]
  clear e1 e2 hc3 hq3 hb4 hspl hput
  go_loopw [37] (fun i wr => ∃ k : Nat, k ≤ F ∧ i = .int .i64 k ∧ wr = w5) (fun i _ => F - (intOf i).toNat)
  case atStart => exact ⟨0, by omega, rfl, rfl⟩
  case round =>
    obtain ⟨k, hk, rfl, hwe⟩ := hrel
    replace hwe := hwe.symm
    subst hwe
    by_cases hlt : k < F
    · have hcell := own35.cell_at HFl.out (k := k) (by rw [HFl.out]; exact hlt)
      by_cases hkn : k < n
      · have hkn' : (k : Int) < (n : Int) := by omega
        obtain ⟨xa, rfl, hcella⟩ := (hb.ext hxx5).byte (i := k) (by rw [Hn.out]; exact hkn)
        have eu : (bs ++ List.replicate (Z + 20) 0)[k]'(by rw [HFl.out]; exact hlt) = bs[k]'(by rw [Hn.out]; exact hkn) := List.getElem_append_left _
        rw [eu] at hcell
        generalize bs[k]'(by rw [Hn.out]; exact hkn) = u at hcell hcella
        clear eu
        go_wp2
        go_roundw
        case rel => exact ⟨k + 1, by omega, by go_num, trivial⟩
        case measure => simp [intOf]; omega
      · have hkn' : (n : Int) ≤ (k : Int) := by omega
        have eu : (bs ++ List.replicate (Z + 20) 0)[k]'(by rw [HFl.out]; exact hlt) = 0 := by rw [List.getElem_append_right (by rw [Hn.out]; omega), List.getElem_replicate]
        rw [eu] at hcell
        clear eu
        go_wp2
        go_roundw
        case rel => exact ⟨k + 1, by omega, by go_num, trivial⟩
        case measure => simp [intOf]; omega
    · obtain rfl : k = F := by omega
      clear hc5
      go_wp2
      go_loopg [67] k (fun gk2 i wq => ∃ (j : Nat) (ys : List UInt8), i = .int .i64 j ∧ j + gk2 = k ∧ ys.length = k ∧ Aside (Own w1.heap.size wq (.slice (some ⟨g, 0, none⟩) k c3) ys ∧ w5.grownBy wq (some g)))
      case atStart => exact ⟨0, _, rfl, by omega, HFl.out, ⟨own35, World.grownBy.refl _ _⟩⟩
      case round =>
        clear own35
        obtain ⟨j, ys, rfl, hj, hys, hA⟩ := hrel
        obtain ⟨own9, T⟩ := hA.out
        by_cases hlt2 : j < k
        · have hjl : j < ys.length := by omega
          have own9' := own9
          rw [← hys] at own9'
          have hcell := own9'.cell hjl
          have hfr := own9'.frozen j
          obtain ⟨q1, q2⟩ := own9'.set j (ys[j] + 1)
          rw [hys] at q1
          have hinc : ((ys[j].toNat : Int) + 1) % 256 = ((ys[j] + 1).toNat : Int) := by
            rw [UInt8.toNat_add]; have : (1 : UInt8).toNat = 1 := rfl; omega
          have T2 := World.grownBy.trans T q2
          obtain ⟨c0, hc0⟩ : ∃ c0, c0 = ys[j] := ⟨_, rfl⟩
          obtain ⟨c1, hc1⟩ : ∃ c1, c1 = ys[j] + 1 := ⟨_, rfl⟩
          rw [← hc1] at hinc q1 q2 T2
          rw [← hc0] at hcell hinc
          have Q1 := Lib.hid q1
          have QT := Lib.hid T2
          have HYS := Lib.hid hys
          clear hc0 hc1 q1 q2 T2 own9 own9' T hA hys hjl
          go_wp2
          go_roundg (gk - 1)
          case measure => omega
          case rel => exact ⟨j + 1, ys.set j c1, by go_num, by omega, by rw [List.length_set]; exact HYS.out, ⟨Q1.out, QT.out⟩⟩
        · obtain rfl : j = k := by omega
          have hxq : Ext w wr := Below.grown hxx5 T hxx5.size (fun i e => by cases e; exact Nat.le_trans hx1.size hg3)
          have hb9 : Cells wr A4 (bv (bs ++ f)) := by
            refine hb5.grown T fun x hx e => ?_
            subst hx
            cases e
            have := own4.lt rfl
            omega
          have hxr : Ext w wr.drew := hxq.drew
          have cvx : ∀ w', Ext wr w' → (convert 22 9 (.slice A4 L c4)).run Try.prog w' = .ok (.string (bstr (bs ++ f))) w' := fun w' k => conv_str Try.underlying22 Try.underlying5 Try.underlying9 HL.out (hb9.ext k)
          have cvb : ∀ w', Ext wr w' → (convert 22 9 (.slice A n c)).run Try.prog w' = .ok (.string (bstr bs)) w' := fun w' k => conv_str Try.underlying22 Try.underlying5 Try.underlying9 Hn.out (hb.ext (hxq.trans k))
          have E0 : Ext wr wr.drew := (Ext.refl wr).drew
          have ks1 : (9223372036854775807 < (bstr bs).size + (bstr f).size) = False := by simp only [eq_iff_iff, iff_false, Nat.not_lt]; omega
          go_wp2
          go_region_held3 (fun w' => (convert 22 9 (.slice A n c)).run Try.prog w' = .ok (.string (bstr bs)) w' ∧ (convert 22 9 (.slice A4 L c4)).run Try.prog w' = .ok (.string (bstr (bs ++ f))) w')
            (first | exact s10 | exact ⟨cvb _ E0, cvx _ E0⟩ | exact ⟨cvb _ (Ext.refl _), cvx _ (Ext.refl _)⟩)
            (first
            | (go_at_call 12; (with_reducible refine (hfrm _).mono ?_); rintro e w10 ⟨rfl, hx10⟩; have e10 := E0.trans hx10; have s10 := And.intro (cvb _ e10) (cvx _ e10); have hxf := hxq.trans e10))
          all_goals (first | (go_wp2; go_ret; exact ⟨rfl, hxf⟩) | (trace_state; sorry))
end Go.Proofs.Ytnfbjapkhoebpaa
