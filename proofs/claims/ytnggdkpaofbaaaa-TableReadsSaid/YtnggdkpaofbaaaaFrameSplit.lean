/- The walks of frame.Split and frame.One, and of the reference's Split and Same. -/
import Derived.Test.YtnggdkpaofbaaaaFrameNext
import Derived.Test.YtnggdkpaofbaaaaStrs
import Derived.Test.YtnggdkpaofbaaaaRef01b
namespace Go.Proofs.Ytnggdkpaofbaaaa
open Go.RowKit
set_option linter.unusedVariables false

theorem splitB_len (b : List UInt8) : (splitB b).1.length ≤ b.length ∧ (splitB b).2.length ≤ b.length := by
  induction hn : b.length using Nat.strongRecOn generalizing b with
  | _ n ih =>
    cases h : nextB b with
    | none => rw [splitB_none h]; exact ⟨Nat.zero_le _, by simpa using Nat.le_of_eq hn⟩
    | some p =>
      obtain ⟨x, m⟩ := p
      have hp := nextB_pos h
      rw [splitB_some h]
      have := ih (b.drop m).length (by rw [List.length_drop]; omega) (b.drop m) rfl
      rw [List.length_drop] at this
      simp only [List.length_cons]
      omega

theorem bv_drop (bs : List UInt8) (k : Nat) : bv (bs.drop k) = (bv bs).drop k := by simp [bv]

theorem str_beq (a b : List UInt8) : ((bstr a).toList == (bstr b).toList) = decide (a = b) := by
  rw [ByteArray.toList_eq, ByteArray.toList_eq, bstr_data, bstr_data]
  by_cases h : a = b
  · rw [decide_eq_true h, beq_iff_eq]; exact h
  · rw [decide_eq_false h, beq_eq_false_iff_ne]; exact h
theorem str_beq_false {a b : List UInt8} (h : ¬ a = b) : ((bstr a).toList == (bstr b).toList) = false := by rw [str_beq, decide_eq_false h]

/-- So far: of bs the first k are split. -/
def SplitTo (bs : List UInt8) (k : Nat) (ys : List (List UInt8)) : Prop := splitB bs = (ys ++ (splitB (bs.drop k)).1, (splitB (bs.drop k)).2) ∧ ys.length ≤ k
theorem SplitTo.start (bs : List UInt8) : SplitTo bs 0 [] := ⟨by simp, Nat.le_refl _⟩
theorem SplitTo.next {bs : List UInt8} {k n : Nat} {ys : List (List UInt8)} {x : List UInt8} (h : SplitTo bs k ys) (hx : nextB (bs.drop k) = some (x, n)) : SplitTo bs (k + n) (ys ++ [x]) := by
  have hp := nextB_pos hx
  refine ⟨?_, by rw [List.length_append, List.length_singleton]; have := h.2; omega⟩
  rw [h.1, splitB_some hx, List.drop_drop]
  simp
theorem SplitTo.stop {bs : List UInt8} {k : Nat} {ys : List (List UInt8)} (h : SplitTo bs k ys) (hx : nextB (bs.drop k) = none) : splitB bs = (ys, bs.drop k) := by
  rw [h.1, splitB_none hx]; simp

set_option maxRecDepth 50000 in
set_option maxHeartbeats 1000000 in
theorem fsplit_calls (A : Option Addr) (n c : Nat) (bs : List UInt8) (w : World) (hb : Cells w A (bv bs)) (hn : bs.length = n) (hc : n ≤ c) (hl : n ≤ 8796093022207) :
    Calls Try.prog 52 #[.slice A n c] w fun e w' => ∃ v, e = .returned (.tuple #[v, .int .i64 ((n - (splitB bs).2.length : Nat) : Int)]) ∧ OwnS w.heap.size w' v (splitB bs).1 ∧ Ext w w' := by
  go_enter Try.func52, Try.ntmps52
  go_wp2
  go_loopg [4, 5] n (fun gk v i wr => ∃ (k : Nat) (ys : List (List UInt8)), i = .int .i64 k ∧ k + gk = n ∧ Aside (SplitTo bs k ys) ∧ Aside (OwnS w.heap.size wr v ys) ∧ Ext w wr)
  case atStart => exact ⟨0, [], rfl, by omega, SplitTo.start bs, OwnS.nil _ _, Ext.refl _⟩
  case round =>
    obtain ⟨k, ys, rfl, hk, hS, hO, hx⟩ := hrel
    have hkn : k ≤ n := by omega
    have hbw := hb.ext hx
    have hdl : (bs.drop k).length = n - k := by rw [List.length_drop, hn]
    have hnx := fun A' w' h => fnext_calls A' (n - k) (c - k) (bs.drop k) w' h hdl (by omega) (by omega)
    cases hnb : nextB (bs.drop k) with
    | none =>
      rw [hnb] at hnx
      have HSt := Lib.hid (hS.out.stop hnb)
      clear hnb
      go_wp2_with (first
        | (refine wpList_slice_from rfl 31 5 (.tmp 10) (.tmp 11) rfl Try.underlying31 1 bs_info A n c k .i64 rfl rfl (by omega) hc hbw (by rw [bv_length, Nat.mul_one, hn]) ?_; intro A' hA' hS'; rw [Nat.mul_one, ← bv_drop] at hA')
        | (go_at_call 80; refine (hnx A' _ hA').mono ?_; rintro e w2 ⟨rfl, hx2⟩; simp only [nextV]))
      go_ret2
      rw [HSt.out]
      refine ⟨u4, ?_, hO.out.ext hx2, hx.trans hx2⟩
      show Ending.returned (.tuple #[u4, .int .i64 (k : Int)]) = _
      rw [show n - (bs.drop k).length = k by rw [hdl]; omega]
    | some p =>
      obtain ⟨x, m⟩ := p
      rw [hnb] at hnx
      have hp := nextB_pos hnb
      rw [hdl] at hp
      have HN := Lib.hid (hS.out.next hnb)
      have hyl : ys.length ≤ k := hS.out.2
      clear hnb
      go_wp2_with (first
        | (refine wpList_slice_from rfl 31 5 (.tmp 10) (.tmp 11) rfl Try.underlying31 1 bs_info A n c k .i64 rfl rfl (by omega) hc hbw (by rw [bv_length, Nat.mul_one, hn]) ?_; intro A' hA' hS'; rw [Nat.mul_one, ← bv_drop] at hA')
        | (go_at_call 80; refine (hnx A' _ hA').mono ?_; rintro e w2 ⟨rfl, hx2⟩; simp only [nextV])
        | (at_builtin; refine wpList_append_strs _ rfl (.tmp 21) (.tmp 23) rfl w.heap.size u4 ys rfl (hO.out.ext (hx2.alloc _)) (some ⟨w2.heap.size, 0, none⟩) 1 1 [x] rfl rfl (Cells.lit rfl [.string (bstr x)] _ _) (by omega) ((hx.trans hx2).alloc _).size ?_; intro v3 w3 hown3 hg3; have hx3 : Ext w w3 := (hO.out.ext (hx2.alloc _)).grows ((hx.trans hx2).alloc _) hg3))
      go_roundg (gk - m)
      case measure => omega
      case rel => exact ⟨k + m, ys ++ [x], by go_num, by omega, HN.out, hown3, hx3⟩

set_option maxRecDepth 50000 in
set_option maxHeartbeats 2000000 in
theorem frsplit_calls (n : Nat) (bs : List UInt8) (w : World) (hn : bs.length = n) (hl : n ≤ 8796093022207) :
    Calls Try.prog 60 #[.string (bstr bs)] w fun e w' => ∃ v, e = .returned (.tuple #[v, .string (bstr (splitB bs).2)]) ∧ OwnS w.heap.size w' v (splitB bs).1 ∧ Ext w w' := by
  obtain ⟨s0, hs0⟩ : ∃ s0, s0 = bstr bs := ⟨_, rfl⟩
  rw [← hs0]
  go_enter Try.func60, Try.ntmps60
  go_wp2
  go_loopg [0, 4] n (fun gk q v wr => ∃ (k : Nat) (ys : List (List UInt8)) (r : List UInt8), q = .string (bstr r) ∧ r.length = gk ∧ k + gk = n ∧ Aside (SplitTo bs k ys ∧ r = bs.drop k) ∧ Aside (OwnS w.heap.size wr v ys) ∧ Ext w wr)
  case atStart => exact ⟨0, [], bs, by rw [hs0], hn, by omega, ⟨SplitTo.start bs, rfl⟩, OwnS.nil _ _, Ext.refl _⟩
  case round =>
    obtain ⟨k, ys, r, rfl, hrl, hk, hS, hO, hx⟩ := hrel
    have hsz := bstr_size r
    rw [hrl] at hsz
    obtain ⟨x, hxx⟩ : ∃ x, x = (PR.text ⟨r, false⟩ (r.length : Nat)).1 := ⟨_, rfl⟩
    obtain ⟨pr, hpr⟩ : ∃ pr, pr = (PR.text ⟨r, false⟩ (r.length : Nat)).2 := ⟨_, rfl⟩
    have hxr : PR.text ⟨r, false⟩ (r.length : Nat) = (x, pr) := by rw [hxx, hpr]
    have htx := fun w => rrtext_calls wr.heap.size ⟨r, false⟩ (gk : Nat) w
    have hxr' := hxr
    rw [hrl] at hxr'
    rw [hxr'] at htx
    have hr0 : RRdr (wr.alloc (.cells #[.string (bstr r), .bool false] 110)) wr.heap.size ⟨r, false⟩ := ⟨Blk.new wr _ _, by show r.length ≤ _; omega⟩
    have hsd : ∀ {o}, nextB r = o → nextB (bs.drop k) = o := fun h => by rw [← hS.out.2]; exact h
    have hyl : ys.length ≤ k := hS.out.1.2
    clear hxx hpr hxr'
    cases hbad : pr.bad with
    | true =>
      have HSt := Lib.hid (hS.out.1.stop (hsd (nextB_bad hxr hbad)))
      have hg := fun w h => rrgood_calls wr.heap.size pr w h
      rw [hbad] at hg
      clear hsd hxr
      go_wp2_with (first
        | (go_at_call 63; refine (htx _ hr0 (by omega)).mono ?_; rintro e w2 ⟨rfl, hr2, ht2⟩)
        | (go_at_call 62; refine (hg _ hr2).mono ?_; rintro e w3 ⟨rfl, rfl⟩))
      have hx2 : Ext wr w2 := ht2.ext ((Ext.refl wr).alloc _) (Nat.le_refl _)
      go_ret2
      rw [HSt.out, ← hS.out.2]
      exact ⟨u4, rfl, hO.out.ext hx2, hx.trans hx2⟩
    | false =>
      obtain ⟨hrt, hx64⟩ := text_back hxr hbad
      have hgood := nextB_good hxr hbad
      have hxl : x.length ≤ n := by
        have := congrArg List.length hrt
        rw [List.length_append, textB_len] at this
        omega
      have hg := fun w h => rrgood_calls wr.heap.size pr w h
      rw [hbad] at hg
      have hfc := fun w => frframe_calls x w (by omega)
      obtain ⟨f, hf⟩ : ∃ f, f = fr x := ⟨_, rfl⟩
      obtain ⟨L, hL⟩ : ∃ L, f.length = L := ⟨_, rfl⟩
      have hL5 : 5 ≤ L := by rw [← hL, hf]; exact fr_pos x
      rw [← hf] at hgood
      simp only [← hf] at hfc
      have hfz : (bstr f).size = L := by rw [bstr_size, hL]
      have HLn := Lib.hid hL
      clear hrt hxr hf hL
      by_cases hshort : gk < L
      · have hnp : ¬ f.isPrefixOf r = true := fun hp => by
          have := (List.isPrefixOf_iff_prefix.1 hp).length_le
          rw [HLn.out] at this
          omega
        rw [if_neg hnp] at hgood
        have HSt := Lib.hid (hS.out.1.stop (hsd hgood))
        clear hgood hsd hnp
        go_wp2_with (first
          | (go_at_call 63; refine (htx _ hr0 (by omega)).mono ?_; rintro e w2 ⟨rfl, hr2, ht2⟩)
          | (go_at_call 62; refine (hg _ hr2).mono ?_; rintro e w3 ⟨rfl, rfl⟩)
          | (go_at_call 51; refine (hfc _).mono ?_; rintro e w3 ⟨rfl, hx3⟩))
        have hx2 : Ext wr w2 := ht2.ext ((Ext.refl wr).alloc _) (Nat.le_refl _)
        go_ret2
        rw [HSt.out, ← hS.out.2]
        exact ⟨u4, rfl, hO.out.ext (hx2.trans hx3), hx.trans (hx2.trans hx3)⟩
      · have hex : (bstr r).extract 0 L = bstr (r.take L) := by rw [bstr_extract]; rfl
        by_cases hpx : r.take L = f
        · have hp : f.isPrefixOf r = true := by rw [List.isPrefixOf_iff_prefix, List.prefix_iff_eq_take, HLn.out, hpx]
          rw [if_pos hp, HLn.out] at hgood
          have HN := Lib.hid (hS.out.1.next (hsd hgood))
          have hdr : bstr (r.drop L) = bstr (bs.drop (k + L)) := by rw [hS.out.2, List.drop_drop]
          have hex2 : (bstr r).extract L gk = bstr (r.drop L) := by rw [bstr_extract, ← hrl, List.take_length]
          have HD : Aside (r.drop L = bs.drop (k + L) ∧ (r.drop L).length = gk - L) := ⟨by rw [hS.out.2, List.drop_drop], by rw [List.length_drop, hrl]⟩
          rw [hpx] at hex
          clear hgood hsd hp hpx hdr
          go_wp2_with (first
            | (go_at_call 63; refine (htx _ hr0 (by omega)).mono ?_; rintro e w2 ⟨rfl, hr2, ht2⟩)
            | (go_at_call 62; refine (hg _ hr2).mono ?_; rintro e w3 ⟨rfl, rfl⟩)
            | (go_at_call 51; refine (hfc _).mono ?_; rintro e w3 ⟨rfl, hx3⟩; have hx2 : Ext wr w3 := (ht2.ext ((Ext.refl wr).alloc _) (Nat.le_refl _)).trans hx3)
            | (at_builtin; refine wpList_append_strs _ rfl (.tmp 37) (.tmp 39) rfl w.heap.size u4 ys rfl (hO.out.ext (hx2.alloc _)) (some ⟨w3.heap.size, 0, none⟩) 1 1 [x] rfl rfl (Cells.lit rfl [.string (bstr x)] _ _) (by omega) ((hx.trans hx2).alloc _).size ?_; intro v4 w4 hown4 hg4; have hx4 : Ext w w4 := (hO.out.ext (hx2.alloc _)).grows ((hx.trans hx2).alloc _) hg4))
          go_roundg (gk - L)
          case measure => omega
          case rel => exact ⟨k + L, ys ++ [x], r.drop L, rfl, HD.out.2, by omega, ⟨HN.out, HD.out.1⟩, hown4, hx4⟩
        · have hp : ¬ f.isPrefixOf r = true := fun hp => hpx (by
            have := List.prefix_iff_eq_take.1 (List.isPrefixOf_iff_prefix.1 hp)
            rw [HLn.out] at this
            exact this.symm)
          rw [if_neg hp] at hgood
          have HSt := Lib.hid (hS.out.1.stop (hsd hgood))
          have hne := str_beq_false hpx
          clear hgood hsd hp hpx
          go_wp2_with (first
            | (go_at_call 63; refine (htx _ hr0 (by omega)).mono ?_; rintro e w2 ⟨rfl, hr2, ht2⟩)
            | (go_at_call 62; refine (hg _ hr2).mono ?_; rintro e w3 ⟨rfl, rfl⟩)
            | (go_at_call 51; refine (hfc _).mono ?_; rintro e w3 ⟨rfl, hx3⟩))
          have hx2 : Ext wr w2 := ht2.ext ((Ext.refl wr).alloc _) (Nat.le_refl _)
          go_ret2
          rw [HSt.out, ← hS.out.2]
          exact ⟨u4, rfl, hO.out.ext (hx2.trans hx3), hx.trans (hx2.trans hx3)⟩
end Go.Proofs.Ytnggdkpaofbaaaa
