/- A new reader of bytes. -/
import Derived.Test.YtcnhbodemabbdaaDoorQ38
import Derived.Test.YtcnhbodemabbdaaDoorQ39
namespace Go.Proofs.YtcnhbodemabbdaaDoor
open Go.RowKit
set_option linter.unusedVariables false

theorem read_calls (A : Option Addr) (n c : Nat) (bs : List UInt8) (w : World) (hb : Cells w A (bv bs)) (hn : bs.length = n) (hl : n ≤ 140737488351232) :
    Calls Tryd.prog 59 #[.slice A n c] w fun e w' => ∃ g, e = .returned (.pointer (some ⟨g, 0, none⟩)) ∧ w.heap.size ≤ g ∧ Rdr w' g ⟨bs, false⟩ ∧ Ext w w' := by
  subst hn
  go_enter Tryd.func59, Tryd.ntmps59
  go_wp2_with (at_builtin; refine wpList_append_u8 _ rfl (.const (.slice none 0 0)) (.tmp 3) rfl w.heap.size _ [] rfl (Own.nil _ _) A bs.length c bs rfl rfl hb (by simp; omega) (Nat.le_refl _) ?_; intro v1 w1 hown hg _; have hx := (Own.nil w.heap.size w).grows (Ext.refl _) hg; rw [List.nil_append] at hown; obtain ⟨A1, c1, hv1, hl1, hm1, hc1⟩ := hown.form; subst hv1)
  go_ret
  refine ⟨w1.heap.size, rfl, hx.size, ⟨A1, c1, Blk.new w1 _ _, hl1, hl, hc1.ext ((Ext.refl _).alloc _), fun x hx => ?_⟩, hx.alloc _⟩
  have := hown.ne x hx
  omega
end Go.Proofs.YtcnhbodemabbdaaDoor
/- The walks of the reference's reader, the rest: Int, In, Take, Text. -/
namespace Go.Proofs.YtcnhbodemabbdaaDoor
open Go.RowKit
set_option linter.unusedVariables false

theorem rrint_calls (g : Nat) (r : PR) (w : World) (h : RRdr w g r) :
    Calls Tryd.prog 73 #[.pointer (some ⟨g, 0, none⟩)] w fun e w' => e = .returned (.int .i64 r.int.1) ∧ RRdr w' g r.int.2 ∧ Turns w w' g := by
  obtain ⟨m, hm⟩ : ∃ m, m = r.uint.1 := ⟨_, rfl⟩
  have hu := rruint_calls g r w h
  rw [← hm] at hu
  have hlt := r.uint_lt
  rw [← hm] at hlt
  have HM := Lib.hid (And.intro hm hlt)
  clear hm hlt
  by_cases h2 : m % 2 = 0
  · have e2 : (((m : Int) % 2 == 0) : Bool) = true := by rw [beq_iff_eq]; omega
    have H2 := Lib.hid h2
    clear h2
    go_enter Tryd.func73, Tryd.ntmps73
    go_wp2_with (go_at_call 98; refine hu.mono ?_; rintro e w1 ⟨rfl, hr1, ht1⟩)
    go_ret
    refine ⟨ret_int ?_, hr1, ht1⟩
    obtain ⟨hm, hlt⟩ := HM.out
    unfold PR.int zag
    rw [← hm, if_pos H2.out]
    first | rw [IntKind.wrap_u64] | skip
    unfold wrap64
    omega
  · have e2 : (((m : Int) % 2 == 0) : Bool) = false := by rw [beq_eq_false_iff_ne]; omega
    have H2 := Lib.hid h2
    clear h2
    go_enter Tryd.func73, Tryd.ntmps73
    go_wp2_with (go_at_call 98; refine hu.mono ?_; rintro e w1 ⟨rfl, hr1, ht1⟩)
    go_ret
    refine ⟨ret_int ?_, hr1, ht1⟩
    obtain ⟨hm, hlt⟩ := HM.out
    unfold PR.int zag
    rw [← hm, if_neg H2.out]
    first | rw [IntKind.wrap_u64] | skip
    unfold wrap64
    omega

theorem rrtake_calls (g : Nat) (r : PR) (n : Int) (w : World) (h : RRdr w g r) :
    Calls Tryd.prog 69 #[.pointer (some ⟨g, 0, none⟩), .int .i64 n] w fun e w' => e = .returned (.string (bstr (r.take n).1)) ∧ RRdr w' g (r.take n).2 ∧ Turns w w' g := by
  have hr := h
  obtain ⟨h1, h3⟩ := h
  have c0 : w.cell? ⟨g, 0, none⟩ = some (.string (bstr r.b)) := by rw [h1.cell]; rfl
  have c1 : w.cell? ⟨g, 1, none⟩ = some (.bool r.bad) := by rw [h1.cell]; rfl
  have f0 := h1.frozen 0
  have hsz := bstr_size r.b
  by_cases hbad : r.bad = true ∨ n < 0 ∨ (r.b.length : Int) < n
  · have hres : r.take n = ([], PR.fail) := by unfold PR.take; rw [if_pos hbad]
    rw [hres]
    have hes : (bstr ([] : List UInt8)) = ⟨#[]⟩ := rfl
    by_cases h0 : n < 0
    · go_enter Tryd.func69, Tryd.ntmps69
      go_wp2_with (go_at_call 97; (with_reducible refine (rrfail_calls g r _ hr).mono ?_); rintro e w2 ⟨rfl, hr2, ht2⟩)
      go_ret
      exact ⟨rfl, hr2, ht2⟩
    · by_cases hl : (r.b.length : Int) < n
      · clear hbad
        go_enter Tryd.func69, Tryd.ntmps69
        go_wp2_with (go_at_call 97; (with_reducible refine (rrfail_calls g r _ hr).mono ?_); rintro e w2 ⟨rfl, hr2, ht2⟩)
        go_ret
        exact ⟨rfl, hr2, ht2⟩
      · have hb : r.bad = true := by rcases hbad with h | h | h <;> first | exact h | omega
        rw [hb] at c1
        clear hbad
        go_enter Tryd.func69, Tryd.ntmps69
        go_wp2_with (go_at_call 97; (with_reducible refine (rrfail_calls g r _ hr).mono ?_); rintro e w2 ⟨rfl, hr2, ht2⟩)
        go_ret
        exact ⟨rfl, hr2, ht2⟩
  · have hres : r.take n = (r.b.take n.toNat, ⟨r.b.drop n.toNat, r.bad⟩) := by unfold PR.take; rw [if_neg hbad]
    simp only [not_or, Int.not_lt] at hbad
    obtain ⟨hb, h0, hl⟩ := hbad
    obtain ⟨k, rfl⟩ := Int.eq_ofNat_of_zero_le h0
    have hk : k ≤ r.b.length := by omega
    rw [hres, Int.toNat_natCast]
    rw [Bool.not_eq_true] at hb
    rw [hb] at c1
    clear h0 hl hres
    go_enter Tryd.func69, Tryd.ntmps69
    go_wp2
    go_ret
    refine ⟨?_, ⟨?_, by simp; omega⟩, grown_set w g 0 _⟩
    · show Ending.returned (.string ((bstr r.b).extract 0 k)) = _
      rw [bstr_extract, List.drop_zero]
    · have hset := h1.set 0 (.string ((bstr r.b).extract k r.b.length))
      rw [bstr_extract, List.take_length] at hset
      rw [bstr_extract, List.take_length]
      exact hset

theorem RRdr.badCell {w : World} {g : Nat} {r : PR} (h : RRdr w g r) : w.cell? ⟨g, 1, none⟩ = some (.bool r.bad) := by rw [h.1.cell]; rfl


theorem rrtext_calls (g : Nat) (r : PR) (most : Int) (w : World) (h : RRdr w g r) (hmost : most ≤ 9223372036854775807) :
    Calls Tryd.prog 72 #[.pointer (some ⟨g, 0, none⟩), .int .i64 most] w fun e w' => e = .returned (.string (bstr (r.text most).1)) ∧ RRdr w' g (r.text most).2 ∧ Turns w w' g := by
  obtain ⟨m, hm⟩ : ∃ m, m = r.uint.1 := ⟨_, rfl⟩
  have hu := rruint_calls g r w h
  rw [← hm] at hu
  have HMO := Lib.hid hmost
  clear hmost
  cases hb : r.uint.2.bad with
  | true =>
    rw [PR.text_bad most hb]
    clear hm
    go_enter Tryd.func72, Tryd.ntmps72
    go_wp2_with (first
      | (go_at_call 98; refine hu.mono ?_; rintro e w1 ⟨rfl, hr1, ht1⟩; have c1 := hr1.badCell; rw [hb] at c1)
      | (go_at_call 97; (with_reducible refine (rrfail_calls g _ _ hr1).mono ?_); rintro e w2 ⟨rfl, hr2, ht2⟩))
    go_ret
    exact ⟨rfl, hr2, ht1.trans ht2⟩
  | false =>
    by_cases hbad : most < 0 ∨ most < (m : Int)
    · have hres : r.text most = ([], PR.fail) := by unfold PR.text; rw [if_pos (by rw [← hm]; exact hbad)]
      rw [hres]
      clear hm
      by_cases h0 : most < 0
      · go_enter Tryd.func72, Tryd.ntmps72
        go_wp2_with (first
          | (go_at_call 98; refine hu.mono ?_; rintro e w1 ⟨rfl, hr1, ht1⟩; have c1 := hr1.badCell; rw [hb] at c1)
          | (go_at_call 97; (with_reducible refine (rrfail_calls g _ _ hr1).mono ?_); rintro e w2 ⟨rfl, hr2, ht2⟩))
        go_ret
        exact ⟨rfl, hr2, ht1.trans ht2⟩
      · have hlt : most < (m : Int) := by omega
        clear hbad
        have hwr : IntKind.u64.wrap most = most := by rw [IntKind.wrap_u64]; have := HMO.out; omega
        go_enter Tryd.func72, Tryd.ntmps72
        go_wp2_with (first
          | (go_at_call 98; refine hu.mono ?_; rintro e w1 ⟨rfl, hr1, ht1⟩; have c1 := hr1.badCell; rw [hb] at c1)
          | (go_at_call 97; (with_reducible refine (rrfail_calls g _ _ hr1).mono ?_); rintro e w2 ⟨rfl, hr2, ht2⟩))
        go_ret
        exact ⟨rfl, hr2, ht1.trans ht2⟩
    · have hres : r.text most = r.uint.2.take m := by unfold PR.text; rw [if_neg (by rw [← hm]; exact hbad), ← hm]
      rw [hres]
      clear hm
      have h0 : 0 ≤ most := by omega
      have hlt : (m : Int) ≤ most := by omega
      clear hbad
      have hwr : IntKind.u64.wrap most = most := by rw [IntKind.wrap_u64]; have := HMO.out; omega
      have hw2 : wrap64 (m : Int) = m := by unfold wrap64; have := HMO.out; omega
      go_enter Tryd.func72, Tryd.ntmps72
      go_wp2_with (first
        | (go_at_call 98; refine hu.mono ?_; rintro e w1 ⟨rfl, hr1, ht1⟩; have c1 := hr1.badCell; rw [hb] at c1)
        | (go_at_call 69; (with_reducible refine (rrtake_calls g _ m _ hr1).mono ?_); rintro e w2 ⟨rfl, hr2, ht2⟩))
      go_ret
      exact ⟨rfl, hr2, ht1.trans ht2⟩
end Go.Proofs.YtcnhbodemabbdaaDoor
