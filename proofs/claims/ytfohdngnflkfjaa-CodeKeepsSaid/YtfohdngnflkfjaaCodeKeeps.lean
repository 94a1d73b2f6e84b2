/- CodeKeeps: the walk of the law. -/
import Derived.Test.YtfohdngnflkfjaaReadVal
import Derived.Test.YtfohdngnflkfjaaCodeOne
import Derived.Deep.RegionHeld3
namespace Go.Proofs.Ytfohdngnflkfjaa
open Go.RowKit
set_option linter.unusedVariables false

/-- A reader whose bytes lie from L on. -/
def RdrL (w : World) (g : Nat) (r : PR) (L : Nat) : Prop :=
  ∃ A c, Blk w g 53 #[.slice A r.b.length c, .bool r.bad] ∧ r.b.length ≤ c ∧ r.b.length ≤ 140737488351232 ∧ Cells w A (bv r.b) ∧ ∀ x, A = some x → x.block < g ∧ L ≤ x.block
theorem RdrL.rdr {w : World} {g L : Nat} {r : PR} (h : RdrL w g r L) : Rdr w g r := let ⟨A, c, h1, h2, h3, h4, h5⟩ := h; ⟨A, c, h1, h2, h3, h4, fun x hx => (h5 x hx).1⟩
theorem RdrL.ext {w w' : World} {g L : Nat} {r : PR} (h : RdrL w g r L) (k : Ext w w') : RdrL w' g r L := let ⟨A, c, h1, h2, h3, h4, h5⟩ := h; ⟨A, c, h1.ext k, h2, h3, h4.ext k, h5⟩
theorem RdrL.turns {w w' : World} {g F L : Nat} {r : PR} (h : RdrL w g r L) (k : Turns w w' F) (hg : g ≠ F) (hF : F < L) : RdrL w' g r L :=
  let ⟨A, c, h1, h2, h3, h4, h5⟩ := h; ⟨A, c, k.blk h1 hg, h2, h3, k.cells h4 (fun x hx e => by have := (h5 x hx).2; omega), h5⟩
theorem readL_calls (A : Option Addr) (n c : Nat) (bs : List UInt8) (w : World) (hb : Cells w A (bv bs)) (hn : bs.length = n) (hl : n ≤ 140737488351232) :
    Calls Try.prog 14 #[.slice A n c] w fun e w' => ∃ g, e = .returned (.pointer (some ⟨g, 0, none⟩)) ∧ w.heap.size ≤ g ∧ RdrL w' g ⟨bs, false⟩ w.heap.size ∧ Ext w w' := by
  subst hn
  go_enter Try.func14, Try.ntmps14
  go_wp2_with (at_builtin; refine wpList_append_u8 _ rfl (.const (.slice none 0 0)) (.tmp 3) rfl w.heap.size _ [] rfl (Own.nil _ _) A bs.length c bs rfl rfl hb (by simp; omega) (Nat.le_refl _) ?_; intro v1 w1 hown hg _; have hx := (Own.nil w.heap.size w).grows (Ext.refl _) hg; rw [List.nil_append] at hown; obtain ⟨A1, c1, hv1, hl1, hm1, hc1⟩ := hown.form; subst hv1)
  go_ret
  refine ⟨w1.heap.size, rfl, hx.size, ⟨A1, c1, Blk.new w1 _ _, hl1, hl, hc1.ext ((Ext.refl _).alloc _), fun x hx => ?_⟩, hx.alloc _⟩
  have := hown.ne x hx
  omega

theorem cv {w : World} {A : Option Addr} {n : Nat} {bs : List UInt8} (c : Nat) (hn : bs.length = n) (h : Cells w A (bv bs)) : (convert 22 9 (.slice A n c)).run Try.prog w = .ok (.string (bstr bs)) w :=
  conv_str (P := Try.prog) Try.underlying22 Try.underlying5 Try.underlying9 hn h
def tail12 : List UInt8 := [1, 2, 3, 4, 5, 6, 7, 8, 9, 10, 11, 12]
theorem tail12_get (j : Nat) (h : j < 12) : (tail12[j]'(by simpa [tail12] using h)).toNat = j + 1 := by
  have : ∀ k : Fin 12, (tail12[k.val]'(by simp [tail12])).toNat = k.val + 1 := by decide
  exact this ⟨j, h⟩

set_option maxRecDepth 100000 in
set_option maxHeartbeats 8000000 in
theorem keeps_calls (Ab : Option Addr) (nb cb : Nat) (bs : List UInt8) (m : Nat) (s : ByteArray) (w : World) (hb : Cells w Ab (bv bs)) (hnb : bs.length = nb) (hcb : nb ≤ cb) (hlb : nb ≤ 140737488351232) (hm : m < 18446744073709551616) (hs : s.size ≤ 140737488351232) :
    Calls Try.prog 3 #[.slice Ab nb cb, .int .u64 m, .string s] w fun e w' => e = .returned (.bool true) ∧ Ext w w' := by
  by_cases h1 : 16384 < nb
  · go_enter Try.func3, Try.ntmps3
    go_wp2_with (go_at_call 10; refine (alive_calls _).mono ?_; rintro e w1 ⟨rfl, hx⟩)
    go_ret
    exact ⟨rfl, hx⟩
  by_cases h2 : 4096 < s.size
  · go_enter Try.func3, Try.ntmps3
    go_wp2_with (go_at_call 10; refine (alive_calls _).mono ?_; rintro e w1 ⟨rfl, hx⟩)
    go_ret
    exact ⟨rfl, hx⟩
  have HNB := Lib.hid hnb
  have HM := Lib.hid hm
  clear hnb hm
  skip

  go_enter Try.func3, Try.ntmps3
  go_wp2_with (first
    | (go_at_call 10; refine (alive_calls _).mono ?_; rintro e w1 ⟨rfl, hx1⟩; have hb1 := hb.ext hx1)
    | (at_builtin; refine wpList_append_u8 _ rfl (.tmp 27) (.tmp 28) rfl w1.heap.size (.slice (some ⟨w1.heap.size, 0, none⟩) 0 0) [] rfl (Own.lit [] #[] rfl (Nat.le_refl _) (by simp [maxLen])) Ab nb cb bs rfl HNB.out (hb1.ext ((Ext.refl _).alloc _)) (by simp; omega) (by simp) ?_; intro v2 w2 own2 hg2 _; have hx2 : Ext w1 w2 := (Own.lit [] #[] rfl (Nat.le_refl _) (by simp [maxLen])).grows ((Ext.refl _).alloc _) hg2; simp only [List.nil_append] at own2; clear hg2 hb1)
    | (at_builtin; refine wpList_append_u8 _ rfl (.tmp 29) (.tmp 30) rfl w1.heap.size v2 bs rfl (own2.ext ((Ext.refl _).alloc _)) (some ⟨w2.heap.size, 0, none⟩) 12 12 tail12 rfl rfl (Cells.lit rfl [.int .u8 1, .int .u8 2, .int .u8 3, .int .u8 4, .int .u8 5, .int .u8 6, .int .u8 7, .int .u8 8, .int .u8 9, .int .u8 10, .int .u8 11, .int .u8 12] _ _) (by rw [HNB.out]; omega) (hx2.alloc _).size ?_; intro v3 w3 own3 hg3 _; have hx3 : Ext w1 w3 := (own2.ext ((Ext.refl _).alloc _)).grows (hx2.alloc _) hg3; obtain ⟨F, c3, hv3, hF1, hF2, hl3⟩ := own3.some_ (by simp [tail12]); obtain ⟨M, hM⟩ : ∃ M, (bs ++ tail12).length = M := ⟨_, rfl⟩; rw [hM] at hv3 hl3; subst hv3; have hMn : M = nb + 12 := (by rw [← hM, List.length_append, HNB.out]; rfl); have HMH := Lib.hid hM; have HMN := Lib.hid hMn; have hnc : nb ≤ c3 := (by omega); have hM4 : (M : Int) ≤ 20000 := (by omega); have hcf := own3.cells; have hcm : Cells w3 (some ⟨F, 0, none⟩) (bv bs) := (by have h := hcf.take nb; rw [bv_append, List.take_append_of_le_length (by rw [bv_length, HNB.out]; exact Nat.le_refl _), List.take_of_length_le (by rw [bv_length, HNB.out]; exact Nat.le_refl _)] at h; exact h); clear hM hMn hg3 own2 hx2)
    | (go_at_call 11; (with_reducible refine (uint_calls (some ⟨F, 0, none⟩) nb c3 bs m _ hcm HNB.out hnc hlb HM.out).mono ?_); rintro e w4 ⟨vx, rfl, ownx, hx4⟩; have hcm4 := hcm.ext hx4)
    | (go_at_call 12; (with_reducible refine (int_calls (some ⟨F, 0, none⟩) nb c3 bs 5 _ hcm4 HNB.out hnc hlb (by decide) (by decide)).mono ?_); rintro e w5 ⟨vy, rfl, owny, hx5⟩; have hcm5 := hcm4.ext hx5)
    | (go_at_call 13; (with_reducible refine (text_calls (some ⟨F, 0, none⟩) nb c3 bs s _ hcm5 HNB.out hnc (by omega)).mono ?_); rintro e w6 ⟨vz, rfl, ownz, hx6⟩; have hcm6 := hcm5.ext hx6)
    | (go_at_call 14; (with_reducible refine (readL_calls (some ⟨F, 0, none⟩) nb c3 bs _ hcm6 HNB.out hlb).mono ?_); rintro e w7 ⟨g, rfl, hg7, hr7, hx7⟩; have hgl := hr7.rdr.lt; have hx17 := (((hx3.trans hx4).trans hx5).trans hx6).trans hx7; have hb7 := hb.ext (hx1.trans hx17))
    | (go_at_call 14; (with_reducible refine (readL_calls Ab nb cb bs _ hb7 HNB.out hlb).mono ?_); rintro e w8 ⟨g2, rfl, hg8, hr8, hx8⟩))
  have hx38 := (((hx4.trans hx5).trans hx6).trans hx7).trans hx8
  have hx18 := hx3.trans hx38
  have own8 := own3.ext hx38
  have hb8 := hb7.ext hx8
  have hx48 := ((hx5.trans hx6).trans hx7).trans hx8
  have hnx := fun k hk => (ownx.lt (k := k) hk).2
  have hny := fun k hk => (owny.lt (k := k) hk).2
  have hnz := fun k hk => (ownz.lt (k := k) hk).2
  have ownx8 := ownx.ext hx48
  have owny8 := owny.ext ((hx6.trans hx7).trans hx8)
  have ownz8 := ownz.ext (hx7.trans hx8)
  have hr78 := hr7.ext hx8
  have hc8 := own8.cells
  clear hcm hcm4 hcm5 hcm6 hb7 own3 ownx owny ownz hr7 hcf
  go_loopg [50] M (fun gk i wr => ∃ k : Nat, i = .int .i64 k ∧ k + gk = M ∧ wr = w8)
  case atStart => exact ⟨0, rfl, by omega, rfl⟩
  case round =>
    obtain ⟨k, rfl, hk, hwe⟩ := hrel
    replace hwe := hwe.symm
    subst hwe
    by_cases hlt : k < M
    · obtain ⟨r1, rfl⟩ : ∃ r1, gk = r1 + 1 := ⟨gk - 1, by omega⟩
      obtain ⟨x, hx, hcell⟩ := hc8.byte (i := k) (by rw [HMH.out]; exact hlt)
      cases hx
      rw [add_new] at hcell
      by_cases hkn : k < nb
      · have hkb : k < bs.length := by rw [HNB.out]; exact hkn
        obtain ⟨y, hy, hcb⟩ := hb8.byte (i := k) hkb
        subst hy
        have e : ((bs ++ tail12)[k]'(by rw [HMH.out]; exact hlt)) = bs[k] := List.getElem_append_left hkb
        rw [e] at hcell
        obtain ⟨c0, hc0⟩ : ∃ c0, c0 = bs[k] := ⟨_, rfl⟩
        rw [← hc0] at hcell hcb
        clear hc0 e
        go_wp2
        go_roundg r1
        case measure => omega
        case rel => exact ⟨k + 1, by go_num, by omega, rfl⟩
      · have e : (((bs ++ tail12)[k]'(by rw [HMH.out]; exact hlt)).toNat : Int) = ((k : Int) - nb + 1) := by
          have hk2 : k - bs.length < 12 := by rw [HNB.out]; have := HMN.out; omega
          rw [List.getElem_append_right (by rw [HNB.out]; omega), tail12_get _ hk2, HNB.out]
          omega
        rw [e] at hcell
        have hs1 : (k : Int) - nb + 1 ≤ 12 := by have := HMN.out; omega
        clear e
        go_wp2
        go_roundg r1
        case measure => omega
        case rel => exact ⟨k + 1, by go_num, by omega, rfl⟩
    · have hFw3 : F < w3.heap.size := hF2
      have hwF : w.heap.size ≤ F := Nat.le_trans hx1.size hF1
      have hxw := hx1.trans hx18
      have hw36 : w3.heap.size ≤ w6.heap.size := ((hx4.trans hx5).trans hx6).size
      have hw46 := (hx5.trans hx6).size
      have hw56 := hx6.size
      have hw34 := hx4.size
      have hw35 := (hx4.trans hx5).size
      have hw67 := hx7.size
      clear hc8 hx1 hx3 hx4 hx5 hx6 hx7 hx8 hx17 hx18 hx38 hx48
      go_wp2
      clear hk hlt
      go_loopg [86] M (fun gk2 i wq => ∃ (j : Nat) (ys : List UInt8), i = .int .i64 j ∧ j + gk2 = M ∧ ys.length = M ∧ Aside (Own w1.heap.size wq (.slice (some ⟨F, 0, none⟩) M c3) ys ∧ Turns w8 wq F))
      case atStart => exact ⟨0, _, rfl, by omega, HMH.out, ⟨own8, Turns.refl _ _⟩⟩
      case round =>
        clear own8
        obtain ⟨j, ys, rfl, hj, hys, hA⟩ := hrel
        obtain ⟨own9, T⟩ := hA.out
        by_cases hlt : j < M
        · obtain ⟨r1, rfl⟩ : ∃ r1, gk = r1 + 1 := ⟨gk - 1, by omega⟩
          have hjl : j < ys.length := by omega
          have own9' := own9
          rw [← hys] at own9'
          have hcell := own9'.cell hjl
          have hfr := own9'.frozen j
          obtain ⟨q1, q2⟩ := own9'.set j (ys[j] + 1)
          rw [hys] at q1
          have hinc : ((ys[j].toNat : Int) + 1) % 256 = ((ys[j] + 1).toNat : Int) := by
            rw [UInt8.toNat_add]; have : (1 : UInt8).toNat = 1 := rfl; omega
          have T2 := T.trans q2
          obtain ⟨c0, hc0⟩ : ∃ c0, c0 = ys[j] := ⟨_, rfl⟩
          obtain ⟨c1, hc1⟩ : ∃ c1, c1 = ys[j] + 1 := ⟨_, rfl⟩
          rw [← hc1] at hinc q1 q2 T2
          rw [← hc0] at hcell hinc
          have Q1 := Lib.hid q1
          have QT := Lib.hid T2
          have HYS := Lib.hid hys
          clear hc0 hc1 q1 q2 T2 own9 own9' T hA hys hjl
          go_wp2
          go_roundg r1
          case measure => omega
          case rel => exact ⟨j + 1, ys.set j c1, by go_num, by omega, by rw [List.length_set]; exact HYS.out, ⟨Q1.out, QT.out⟩⟩
        · have hxq := T.ext hxw hwF
          have hb9 := hb.ext hxq
          obtain ⟨Lx, hLx⟩ : ∃ L, (bs ++ uintB m).length = L := ⟨_, rfl⟩
          obtain ⟨Ax, cx, rfl, _, _, hcx⟩ := (ownx8.turns T hFw3).form_at hLx
          have HLx := Lib.hid hLx
          clear hLx
          obtain ⟨Ly, hLy⟩ : ∃ L, (bs ++ intB 5).length = L := ⟨_, rfl⟩
          obtain ⟨Ay, cy, rfl, _, _, hcy⟩ := (owny8.turns T (by omega)).form_at hLy
          have HLy := Lib.hid hLy
          clear hLy
          obtain ⟨Lz, hLz⟩ : ∃ L, (bs ++ textB s.data.toList).length = L := ⟨_, rfl⟩
          obtain ⟨Az, cz, rfl, _, _, hcz⟩ := (ownz8.turns T (by omega)).form_at hLz
          have HLz := Lib.hid hLz
          clear hLz
          have hgF : g ≠ F := by omega
          have hg2F : g2 ≠ F := by omega
          have hr9 := hr78.turns T hgF (by omega)
          have hr29 := hr8.turns T hg2F (by omega)
          have hcat1 : bstr bs ++ bstr (uintB m) = bstr (bs ++ uintB m) := bstr_append _ _
          have hi5 : intB 5 = [10] := by unfold intB zig; rw [if_pos (by decide), uintB_lt (by decide)]; rfl
          have hcat2 : bstr bs ++ ⟨#[10]⟩ = bstr (bs ++ intB 5) := by rw [hi5, ← bstr_append]; rfl
          have hcat3 : bstr bs ++ bstr (textB s.data.toList) = bstr (bs ++ textB s.data.toList) := bstr_append _ _
          have hz1 : (bstr bs).size ≤ 16384 := by rw [bstr_size, HNB.out]; omega
          have hz2 : (bstr (uintB m)).size ≤ 10 := by rw [bstr_size]; exact sizeN_64 (by have := HM.out; omega)
          have hz3 : (bstr (textB s.data.toList)).size ≤ 5000 := by rw [bstr_size]; unfold textB; rw [List.length_append, str_len]; have := sizeN_64 (n := s.size) (by omega); unfold sizeN at this; omega
          have ks1 : (9223372036854775807 < (bstr bs).size + (bstr (uintB m)).size) = False := by simp only [eq_iff_iff, iff_false, Nat.not_lt]; omega
          have ks2 : (9223372036854775807 < (bstr bs).size + (bstr (textB s.data.toList)).size) = False := by simp only [eq_iff_iff, iff_false, Nat.not_lt]; omega
          have ks3 : (9223372036854775807 < (bstr bs).size + (ByteArray.mk #[10]).size) = False := by simp only [eq_iff_iff, iff_false, Nat.not_lt]; have : (ByteArray.mk #[10]).size = 1 := rfl; omega
          have ks4 : (9223372036854775807 < (bstr bs).size + 1) = False := by simp only [eq_iff_iff, iff_false, Nat.not_lt]; omega
          have HP := Lib.hid (show PR.take ⟨bs, false⟩ nb = ((bstr bs).data.toList, ⟨[], false⟩) by rw [bstr_data, ← HNB.out]; have h := PR.take_of bs []; rw [List.append_nil] at h; exact h)
          have HC2 := Lib.hid hcat2
          have E0 := (Ext.refl wr).drew
          have kx0 := cv cx HLx.out (hcx.ext E0)
          have kb0 := cv cb HNB.out (hb9.ext E0)
          have hxq0 := hxq.drew
          have hgw : w.heap.size ≤ g := by omega
          have hgw2 : w.heap.size ≤ g2 := by omega
          have hgg : g ≠ g2 := by omega
          have hgL : g < w7.heap.size := hgl
          have hg12 : g < g2 := by omega
          have nx : ∀ x, Ax = some x → x.block < w6.heap.size := fun x hx => by have := hnx x.block (by rw [hx]; rfl); omega
          have ny : ∀ x, Ay = some x → x.block < w6.heap.size := fun x hx => by have := hny x.block (by rw [hx]; rfl); omega
          have nz : ∀ x, Az = some x → x.block < w6.heap.size := fun x hx => hnz x.block (by rw [hx]; rfl)
          have nG : ∀ {A : Option Addr}, (∀ x, A = some x → x.block < w6.heap.size) → ∀ x, A = some x → x.block ≠ g := fun h x hx => by have := h x hx; omega
          have nG2 : ∀ {A : Option Addr}, (∀ x, A = some x → x.block < w6.heap.size) → ∀ x, A = some x → x.block ≠ g2 := fun h x hx => by have := h x hx; omega
          clear hnx hny hnz hr78 hr8 ownx8 owny8 ownz8 hb8 hi5 hcat2
          go_wp2
          have hcat2 := HC2.out
          clear kx0 kb0
          go_region_held3 (fun w' => (convert 22 9 (.slice Ab nb cb)).run Try.prog w' = .ok (.string (bstr bs)) w' ∧ (convert 22 9 (.slice Ax Lx cx)).run Try.prog w' = .ok (.string (bstr (bs ++ uintB m))) w' ∧ (convert 22 9 (.slice Ay Ly cy)).run Try.prog w' = .ok (.string (bstr (bs ++ intB 5))) w' ∧ (convert 22 9 (.slice Az Lz cz)).run Try.prog w' = .ok (.string (bstr (bs ++ textB s.data.toList))) w')
            (first | exact s13 | exact s12 | exact s11 | exact s10 | exact ⟨cv cb HNB.out (hb9.ext E0), cv cx HLx.out (hcx.ext E0), cv cy HLy.out (hcy.ext E0), cv cz HLz.out (hcz.ext E0)⟩ | exact ⟨cv cb HNB.out (hb9.ext (Ext.refl wr)), cv cx HLx.out (hcx.ext (Ext.refl wr)), cv cy HLy.out (hcy.ext (Ext.refl wr)), cv cz HLz.out (hcz.ext (Ext.refl wr))⟩)
            (first
            | (go_at_call 15; (with_reducible refine (refUint_calls m _ HM.out).mono ?_); rintro e w10 ⟨rfl, hx10⟩; have e10 := E0.trans hx10; have s10 := And.intro (cv cb HNB.out (hb9.ext e10)) (And.intro (cv cx HLx.out (hcx.ext e10)) (And.intro (cv cy HLy.out (hcy.ext e10)) (cv cz HLz.out (hcz.ext e10)))))
            | (go_at_call 16; (with_reducible refine (refText_calls s _ hs).mono ?_); rintro e w11 ⟨rfl, hx11⟩; have e11 := e10.trans hx11; have ra := hr9.ext e11; have rb := hr29.ext e11; have s11 := And.intro (cv cb HNB.out (hb9.ext e11)) (And.intro (cv cx HLx.out (hcx.ext e11)) (And.intro (cv cy HLy.out (hcy.ext e11)) (cv cz HLz.out (hcz.ext e11)))))
            | (go_at_call 17; (with_reducible refine (rtake_val g _ nb (bstr bs) _ _ ra.rdr HP.out).mono ?_); rintro e w12 ⟨rfl, hr12, ht12⟩; have rb2 := rb.turns ht12 hgg.symm hgL; have hx12 := ht12.ext (hxq.trans e11) hgw; have s12 := And.intro (cv cb HNB.out (hb.ext hx12)) (And.intro (cv cx HLx.out (ht12.cells (hcx.ext e11) (nG nx))) (And.intro (cv cy HLy.out (ht12.cells (hcy.ext e11) (nG ny))) (cv cz HLz.out (ht12.cells (hcz.ext e11) (nG nz))))))
            | (go_at_call 17; (with_reducible refine (rtake_val g2 _ nb (bstr bs) _ _ rb2.rdr HP.out).mono ?_); rintro e w13 ⟨rfl, hr13, ht13⟩; have hxf := ht13.ext hx12 hgw2; have s13 := And.intro (cv cb HNB.out (hb.ext hxf)) (And.intro (cv cx HLx.out (ht13.cells (ht12.cells (hcx.ext e11) (nG nx)) (nG2 nx))) (And.intro (cv cy HLy.out (ht13.cells (ht12.cells (hcy.ext e11) (nG ny)) (nG2 ny))) (cv cz HLz.out (ht13.cells (ht12.cells (hcz.ext e11) (nG nz)) (nG2 nz))))))
            | (go_at_call 17; (with_reducible refine (rtake_val g2 _ nb (bstr bs) _ _ rb.rdr HP.out).mono ?_); rintro e w12 ⟨rfl, hr12, ht12⟩; have ra2 := ra.rdr.grown ht12 (fun j e => by cases e; exact hg12); have hx12 := ht12.ext (hxq.trans e11) hgw2; have s12 := And.intro (cv cb HNB.out (hb.ext hx12)) (And.intro (cv cx HLx.out (ht12.cells (hcx.ext e11) (nG2 nx))) (And.intro (cv cy HLy.out (ht12.cells (hcy.ext e11) (nG2 ny))) (cv cz HLz.out (ht12.cells (hcz.ext e11) (nG2 nz))))))
            | (go_at_call 17; (with_reducible refine (rtake_val g _ nb (bstr bs) _ _ ra2 HP.out).mono ?_); rintro e w13 ⟨rfl, hr13, ht13⟩; have hxf := ht13.ext hx12 hgw; have s13 := And.intro (cv cb HNB.out (hb.ext hxf)) (And.intro (cv cx HLx.out (ht13.cells (ht12.cells (hcx.ext e11) (nG2 nx)) (nG nx))) (And.intro (cv cy HLy.out (ht13.cells (ht12.cells (hcy.ext e11) (nG2 ny)) (nG ny))) (cv cz HLz.out (ht13.cells (ht12.cells (hcz.ext e11) (nG2 nz)) (nG nz)))))))
          all_goals
            go_wp2
            go_ret
            exact ⟨rfl, hxf⟩
end Go.Proofs.Ytfohdngnflkfjaa
