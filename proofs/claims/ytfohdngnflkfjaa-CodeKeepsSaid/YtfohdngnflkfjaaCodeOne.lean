/- CodeOne: the walk of the law. -/
import Derived.Test.YtfohdngnflkfjaaReadVal
import Derived.Test.YtfohdngnflkfjaaWritten
import Derived.Deep.RegionLaw
namespace Go.Proofs.Ytfohdngnflkfjaa
open Go.RowKit
set_option linter.unusedVariables false

/-- What was read so far, written again, and what is left, are the bytes: as long as there was no fault. -/
structure Inv (bs out : List UInt8) (r : PR) (k : Nat) : Prop where
  same : r.bad = false → out ++ r.b = bs
  ok : r.Ok
  len : out.length + r.b.length ≤ bs.length + k
theorem Inv.fail {bs out : List UInt8} {r : PR} {k : Nat} (h : Inv bs out r k) (b : List UInt8) (hb : b.length ≤ 1) : Inv bs (out ++ b) PR.fail (k + 1) :=
  ⟨(fun h => by cases h), PR.ok_fail, by have := h.len; rw [List.length_append]; show _ + 0 ≤ _; omega⟩
theorem zero_len : (uintB 0).length ≤ 1 := by rw [uintB_lt (by decide)]; simp
theorem Inv.uint {bs out : List UInt8} {r : PR} {k : Nat} (h : Inv bs out r k) : Inv bs (out ++ uintB r.uint.1) r.uint.2 (k + 1) := by
  have hok := h.ok.uint
  unfold PR.uint at hok ⊢
  split
  · rename_i m q hq
    obtain ⟨n, hm, hb, _, _⟩ := rUF_back _ _ _ _ _ (by omega) hq
    have : n = m := by simpa using hm.symm
    subst this
    rw [hq] at hok
    refine ⟨fun hbad => ?_, hok, ?_⟩
    · have := h.same hbad
      rw [hb, ← List.append_assoc] at this
      exact this
    · have := h.len
      rw [hb, List.length_append] at this
      rw [List.length_append]
      simp only
      omega
  · exact h.fail _ zero_len
theorem intB_zag (m : Nat) : intB (zag m) = uintB m := by unfold intB; rw [zig_zag]
theorem Inv.int {bs out : List UInt8} {r : PR} {k : Nat} (h : Inv bs out r k) : Inv bs (out ++ intB r.int.1) r.int.2 (k + 1) := by
  have := h.uint
  unfold PR.int
  simp only
  rw [intB_zag]
  exact this
theorem intB_zero : intB 0 = uintB 0 := by unfold intB zig; rw [if_pos (by omega)]; rfl
theorem Inv.in_ {bs out : List UInt8} {r : PR} {k : Nat} (h : Inv bs out r k) (lo hi : Int) : Inv bs (out ++ intB (r.in_ lo hi).1) (r.in_ lo hi).2 (k + 1) := by
  unfold PR.in_
  split
  · split
    · exact h.fail _ (by rw [intB_zero]; exact zero_len)
    · exact h.int
  · rename_i hb
    have hb' : r.int.2.bad = true := by simpa using hb
    have e := h.ok.int.eq hb'
    simp only
    rw [e]
    exact h.fail _ (by rw [intB_zero]; exact zero_len)
theorem Inv.take {bs out : List UInt8} {r : PR} {k : Nat} (h : Inv bs out r k) (n : Int) : Inv bs (out ++ (r.take n).1) (r.take n).2 (k + 1) := by
  have hok := h.ok.take n
  unfold PR.take at hok ⊢
  split
  · exact h.fail [] (by simp)
  · rename_i hn
    rw [if_neg hn] at hok
    refine ⟨fun hb => ?_, hok, ?_⟩
    · have := h.same hb
      simp only
      rw [List.append_assoc, List.take_append_drop]
      exact this
    · have := h.len
      simp only [List.length_append, List.length_take, List.length_drop]
      omega
theorem Inv.text {bs out : List UInt8} {r : PR} {k : Nat} (h : Inv bs out r k) (most : Int) : Inv bs (out ++ textB (r.text most).1) (r.text most).2 (k + 1) := by
  have hz : (textB ([] : List UInt8)).length ≤ 1 := by unfold textB; simpa using zero_len
  unfold PR.text
  split
  · exact h.fail _ hz
  · have hu := h.uint
    obtain ⟨⟨m, r'⟩, hp⟩ : ∃ p, p = r.uint := ⟨_, rfl⟩
    rw [← hp] at hu ⊢
    simp only at hu ⊢
    unfold PR.take
    split
    · exact h.fail _ hz
    · rename_i hn
      have hm : m ≤ r'.b.length := by omega
      have hb : r'.bad = false := by cases hb : r'.bad with | false => rfl | true => exact absurd (.inl hb) hn
      refine ⟨fun _ => ?_, fun hb' => ?_, ?_⟩
      · have := hu.same hb
        unfold textB
        simp only [Int.toNat_natCast]
        rw [List.length_take, Nat.min_eq_left hm, List.append_assoc, List.append_assoc, List.take_append_drop, ← List.append_assoc]
        exact this
      · rw [hb] at hb'; cases hb'
      · have := hu.len
        unfold textB
        simp only [Int.toNat_natCast, List.length_append, List.length_take, List.length_drop, Nat.min_eq_left hm] at this ⊢
        omega

theorem PR.in_lo (r : PR) (lo hi : Int) : -9223372036854775808 ≤ (r.in_ lo hi).1 ∧ (r.in_ lo hi).1 ≤ 9223372036854775807 := by
  unfold PR.in_
  split
  · split
    · simp
    · exact r.int_lo
  · simp
theorem Own.turns {B : Nat} {w w' : World} {v : Value} {bs : List UInt8} {g : Nat} (h : Own B w v bs) (ht : Turns w w' g) (hg : g < B) : Own B w' v bs :=
  h.other ht (by
    cases hv : v.ownBlock with
    | none => exact .inl rfl
    | some k => exact .inr (fun e => by have := (h.lt hv).1; cases e; omega))
theorem Ext.turns {w w' : World} (h : Ext w w') (g : Nat) : Turns w w' g := ⟨h.os, h.tape, h.output, h.size, fun k hk _ => h.block k hk⟩
theorem Turns.row {w3 w w' : World} {g : Nat} (T : Turns w3 w g) {row : Option Nat} (h : w.grownBy w' row) (hr : ∀ j, row = some j → w3.heap.size ≤ j) : Turns w3 w' g :=
  ⟨h.os.trans T.os, h.tape.trans T.tape, h.output.trans T.output, Nat.le_trans T.size h.size, fun k hk hne => (h.block k (Nat.lt_of_lt_of_le hk T.size) (fun e => by have := hr k e.symm; omega)).trans (T.block k hk hne)⟩
theorem step_append_lit2 {ops : Array Oper} {o : Oper} {a : Act} {w : World} {K : Act → World → Prop} {Q : Exit → Act → World → Prop} {E : Prop} (hg : o.guard = none) (s x : Operand)
    (ho : o.op = .call { callee := .builtin .append, args := #[s, x], argTypes := #[22, 22] })
    (g : Nat) (hs : a.eval s = .slice (some ⟨g, 0, none⟩) 0 0) (B : Nat) (hgw : w.heap[g]? = some (.cells #[] 5 (0, 0))) (hgg : B ≤ g) (hbase : B ≤ w.heap.size)
    (A : Option Addr) (m c : Nat) (ys : List UInt8) (hx : a.eval x = .slice A m c) (hm : ys.length = m) (hr : Cells w A (bv ys))
    (hlen : m ≤ 140737488355328)
    (h : ∀ v' w', Own B w' v' ys → w.grownBy w' (some g) → K (a.put o.dst v') w') :
    if Region.wanted o (yielded ops a.tmps) = true then Oper.wp Try.prog o a w K Q else E := by
  have hown : Own B w (.slice (some ⟨g, 0, none⟩) 0 0) [] := ⟨rfl, .inr ⟨g, 0, #[], rfl, hgg, hgw, Nat.le_refl _, by simp [maxLen], rfl, rfl⟩⟩
  refine step_append_u8 hg s x ho B _ [] hs hown A m c ys hx hm hr (by simp; omega) hbase ?_
  intro v' w' h1 h2
  rw [List.nil_append] at h1
  exact h v' w' h1 h2
theorem own_ge {B : Nat} {w : World} {v : Value} {bs : List UInt8} (h : Own B w v bs) : ∀ j, v.ownBlock = some j → B ≤ j := fun j hj => (h.lt hj).1
theorem grown_turns {w w' : World} {row : Option Nat} (h : w.grownBy w' row) {w0 : World} (k : Ext w0 w) (hr : ∀ j, row = some j → w0.heap.size ≤ j) : Ext w0 w' := Below.grown k h k.size hr

set_option maxHeartbeats 8000000 in
theorem one_calls (Ab Ac : Option Addr) (nb cb nc cc : Nat) (bs : List UInt8) (xs : List Pt) (w : World) (hb : Cells w Ab (bv bs)) (hnb : bs.length = nb) (hlb : nb ≤ 140737488351232) (h : Pts w Ac xs) (hn : xs.length = nc) (hl : nc ≤ 140737488351232) :
    Calls Try.prog 9 #[.slice Ab nb cb, .slice Ac nc cc] w fun e w' => e = .returned (.bool true) ∧ Ext w w' := by
  by_cases h1 : 16384 < nb
  · go_enter Try.func9, Try.ntmps9
    go_wp2_with (go_at_call 10; refine (alive_calls _).mono ?_; rintro e w1 ⟨rfl, hx⟩)
    go_ret
    exact ⟨rfl, hx⟩
  by_cases h2 : 200 < nc
  · go_enter Try.func9, Try.ntmps9
    go_wp2_with (go_at_call 10; refine (alive_calls _).mono ?_; rintro e w1 ⟨rfl, hx⟩)
    go_ret
    exact ⟨rfl, hx⟩
  subst hn
  have HNB := Lib.hid hnb
  clear hnb
  go_enter Try.func9, Try.ntmps9
  go_wp2_with (first
    | (go_at_call 10; refine (alive_calls _).mono ?_; rintro e w1 ⟨rfl, hx⟩)
    | (go_at_call 14; (with_reducible refine (read_calls Ab nb cb bs _ (hb.ext hx) HNB.out hlb).mono ?_); rintro e w4 ⟨g, rfl, hg, hr, hx4⟩; have hgw := Nat.le_trans hx.size hg; replace hx := hx.trans hx4; have hgB := hr.lt; clear hx4 hg))
  obtain ⟨B, hBe⟩ : ∃ B, w4.heap.size = B := ⟨_, rfl⟩
  rw [hBe] at hgB
  have hBE := Lib.hid hBe
  clear hBe
  go_loopg [6, 23] (xs.length) (fun gk v i wr => ∃ (k : Nat) (out : List UInt8) (r : PR), i = .int .i64 k ∧ k + gk = xs.length ∧ Aside (Rdr wr g r ∧ Inv bs out r k ∧ Own B wr v out ∧ B ≤ wr.heap.size) ∧ Ext w wr)
  case atStart => exact ⟨0, [], ⟨bs, false⟩, rfl, by omega, ⟨hr, ⟨fun _ => rfl, (fun h => by cases h), by simp⟩, Own.nil _ _, Nat.le_of_eq hBE.out.symm⟩, hx⟩
  case round =>
    clear hr hx
    obtain ⟨k, out, r, rfl, hk, hA, hx⟩ := hrel
    obtain ⟨hr, hinv, hown, hBs⟩ := hA.out
    obtain ⟨N, hN⟩ : ∃ N, out.length = N := ⟨_, rfl⟩
    have hN2 : N ≤ 20000 := by have := hinv.len; have := HNB.out; omega
    obtain ⟨Ao, co, rfl, hl0, hm0, hco⟩ := hown.form_at hN
    have HN := Lib.hid hN
    have HV := Lib.hid hinv
    clear hA hN
    by_cases hlt : k < xs.length
    · obtain ⟨x, rfl, hc⟩ := (h.get hlt).2
      have hc' : ∀ j v, xs[k].cs[j]? = some v → wr.cell? ((x.add (k * 6)).add j) = some v := fun j v hv => hx.cell (hc j v hv)
      have hok := (h.get hlt).1
      obtain ⟨q, hq⟩ : ∃ q, q = xs[k] := ⟨_, rfl⟩
      rw [← hq] at hc' hok
      have HOK := Lib.hid hok
      have hne : wr.heap.size ≠ g := fun e => by have := hr.lt; omega
      have hz : Ext wr (wr.alloc (.cells #[.int .i64 0, .int .u64 0, .int .i64 0, .string ⟨#[]⟩, .int .i64 0, .int .i64 0] 48)) := (Ext.refl _).alloc _
      obtain ⟨r1, rfl⟩ : ∃ r1, gk = r1 + 1 := ⟨gk - 1, by omega⟩
      have hqn : q.n ≤ 9223372036854775807 := hok.n1
      have HQN := Lib.hid hqn
      clear hq hok hc hqn hinv
      by_cases k0 : q.k = 0
      · have kb0 : ((q.k == 0) : Bool) = true := by rw [k0]; rfl
        obtain ⟨⟨m, r'⟩, hp⟩ : ∃ p, p = r.uint := ⟨_, rfl⟩
        have hi := HV.out.uint
        have hm := r.uint_lt
        rw [← hp] at hi hm
        have HP := Lib.hid hp.symm
        have HI := Lib.hid hi
        have HM := Lib.hid hm
        clear k0 hp hi hm
        go_wp2_with (first
          | (refine wpList_load_cells rfl 48 (.tmp 25) rfl (x.add (k * 6)) rfl q.cs _ hc' Try.underlying48 rfl pt_info ?_)
          | (refine wpList_store_blk rfl 48 (.tmp 8) (.tmp 26) rfl rfl wr.heap.size q.cs.toArray rfl rfl _ _ (Blk.new wr _ _) rfl (by kernel_rfl) ?_ ?_; (exact q.one); intro w3 hb3 hg3; have hxr := hz.grown_ hg3 (by intro j hj; cases hj; exact Nat.le_refl _); have hx3 := hx.trans hxr; have hr3 := hr.ext hxr; have own3 := hown.ext hxr; have hb := Boxed.of hb3; have hB3 := Nat.le_trans hBs hxr.size; obtain ⟨b0, b1, b2, b3, b4, b5⟩ := hb; clear hc' hr hown hb3 hg3 hz hx)
          | (go_at_call 21; (with_reducible refine (ruint_val g r m r' _ hr3 HP.out).mono ?_); rintro e w4 ⟨rfl, hr4, ht4⟩; have hx4 := ht4.ext hx3 hgw; have own4 := own3.turns ht4 hgB; have hc4 := own4.cells; have hB4 := Nat.le_trans hB3 ht4.size; clear hr3 own3 hx3 ht4)
          | (go_at_call 11; (with_reducible refine (uint_calls Ao N co out m _ hc4 HN.out hl0 (by omega) (by have := HM.out; omega)).mono ?_); rintro e w5 ⟨v5, rfl, own5, hx5'⟩; replace own5 := own5.lower hB4; have hr5 := hr4.ext hx5'; have hx5 := hx4.trans hx5'; have hB5 := Nat.le_trans hB4 hx5'.size; clear hx5' own4 hr4 hx4))
        go_roundg r1
        case measure => omega
        case rel => exact ⟨k + 1, _, _, by go_num, by omega, ⟨hr5, HI.out, own5, hB5⟩, hx5⟩
      have kb0 : ((q.k == 0) : Bool) = false := by rw [beq_eq_false_iff_ne]; exact k0
      by_cases k2 : q.k = 2
      · have kb2 : ((q.k == 2) : Bool) = true := by rw [k2]; rfl
        obtain ⟨⟨t, r'⟩, hp⟩ : ∃ p, p = r.text q.n := ⟨_, rfl⟩
        have hi := HV.out.text q.n
        rw [← hp] at hi
        obtain ⟨s, hs⟩ : ∃ s, s = bstr t := ⟨_, rfl⟩
        have ht : t = s.data.toList := by rw [hs, bstr_data]
        subst ht
        have hsl : N + s.size ≤ 40000 := by
          have h5 := hi.len
          have h6 := HN.out
          have h7 := HNB.out
          unfold textB at h5
          simp only [List.length_append, str_len] at h5
          omega
        have HP := Lib.hid hp.symm
        have HI := Lib.hid hi
        clear k0 k2 hp hi hs
        go_wp2_with (first
          | (refine wpList_load_cells rfl 48 (.tmp 25) rfl (x.add (k * 6)) rfl q.cs _ hc' Try.underlying48 rfl pt_info ?_)
          | (refine wpList_store_blk rfl 48 (.tmp 8) (.tmp 26) rfl rfl wr.heap.size q.cs.toArray rfl rfl _ _ (Blk.new wr _ _) rfl (by kernel_rfl) ?_ ?_; (exact q.one); intro w3 hb3 hg3; have hxr := hz.grown_ hg3 (by intro j hj; cases hj; exact Nat.le_refl _); have hx3 := hx.trans hxr; have hr3 := hr.ext hxr; have own3 := hown.ext hxr; have hb := Boxed.of hb3; have hB3 := Nat.le_trans hBs hxr.size; obtain ⟨b0, b1, b2, b3, b4, b5⟩ := hb; clear hc' hr hown hb3 hg3 hz hx)
          | (go_at_call 23; (with_reducible refine (rtext_val g r q.n s r' _ hr3 HQN.out HP.out).mono ?_); rintro e w4 ⟨rfl, hr4, ht4⟩; have hx4 := ht4.ext hx3 hgw; have own4 := own3.turns ht4 hgB; have hc4 := own4.cells; have hB4 := Nat.le_trans hB3 ht4.size; clear hr3 own3 hx3 ht4)
          | (go_at_call 13; (with_reducible refine (text_calls Ao N co out s _ hc4 HN.out hl0 (by omega)).mono ?_); rintro e w5 ⟨v5, rfl, own5, hx5'⟩; replace own5 := own5.lower hB4; have hr5 := hr4.ext hx5'; have hx5 := hx4.trans hx5'; have hB5 := Nat.le_trans hB4 hx5'.size; clear hx5' own4 hr4 hx4))
        go_roundg r1
        case measure => omega
        case rel => exact ⟨k + 1, _, _, by go_num, by omega, ⟨hr5, HI.out, own5, hB5⟩, hx5⟩
      have kb2 : ((q.k == 2) : Bool) = false := by rw [beq_eq_false_iff_ne]; exact k2
      by_cases k3 : q.k = 3
      · have kb3 : ((q.k == 3) : Bool) = true := by rw [k3]; rfl
        obtain ⟨⟨m, r'⟩, hp⟩ : ∃ p, p = r.in_ q.lo q.hi := ⟨_, rfl⟩
        have hi := HV.out.in_ q.lo q.hi
        have hm := r.in_lo q.lo q.hi
        rw [← hp] at hi hm
        have HP := Lib.hid hp.symm
        have HI := Lib.hid hi
        have HM := Lib.hid hm
        clear k0 k2 k3 hp hi hm
        go_wp2_with (first
          | (refine wpList_load_cells rfl 48 (.tmp 25) rfl (x.add (k * 6)) rfl q.cs _ hc' Try.underlying48 rfl pt_info ?_)
          | (refine wpList_store_blk rfl 48 (.tmp 8) (.tmp 26) rfl rfl wr.heap.size q.cs.toArray rfl rfl _ _ (Blk.new wr _ _) rfl (by kernel_rfl) ?_ ?_; (exact q.one); intro w3 hb3 hg3; have hxr := hz.grown_ hg3 (by intro j hj; cases hj; exact Nat.le_refl _); have hx3 := hx.trans hxr; have hr3 := hr.ext hxr; have own3 := hown.ext hxr; have hb := Boxed.of hb3; have hB3 := Nat.le_trans hBs hxr.size; obtain ⟨b0, b1, b2, b3, b4, b5⟩ := hb; clear hc' hr hown hb3 hg3 hz hx)
          | (go_at_call 28; (with_reducible refine (rin_val g r q.lo q.hi m r' _ hr3 HP.out).mono ?_); rintro e w4 ⟨rfl, hr4, ht4⟩; have hx4 := ht4.ext hx3 hgw; have own4 := own3.turns ht4 hgB; have hc4 := own4.cells; have hB4 := Nat.le_trans hB3 ht4.size; clear hr3 own3 hx3 ht4)
          | (go_at_call 12; (with_reducible refine (int_calls Ao N co out m _ hc4 HN.out hl0 (by omega) HM.out.1 HM.out.2).mono ?_); rintro e w5 ⟨v5, rfl, own5, hx5'⟩; replace own5 := own5.lower hB4; have hr5 := hr4.ext hx5'; have hx5 := hx4.trans hx5'; have hB5 := Nat.le_trans hB4 hx5'.size; clear hx5' own4 hr4 hx4))
        go_roundg r1
        case measure => omega
        case rel => exact ⟨k + 1, _, _, by go_num, by omega, ⟨hr5, HI.out, own5, hB5⟩, hx5⟩
      have kb3 : ((q.k == 3) : Bool) = false := by rw [beq_eq_false_iff_ne]; exact k3
      by_cases k4 : q.k = 4
      · have kb4 : ((q.k == 4) : Bool) = true := by rw [k4]; rfl
        obtain ⟨⟨t, r'⟩, hp⟩ : ∃ p, p = r.take q.n := ⟨_, rfl⟩
        have hi := HV.out.take q.n
        rw [← hp] at hi
        obtain ⟨s, hs⟩ : ∃ s, s = bstr t := ⟨_, rfl⟩
        have ht : t = s.data.toList := by rw [hs, bstr_data]
        subst ht
        have hsl : N + s.size ≤ 40000 := by
          have h5 := hi.len
          have h6 := HN.out
          have h7 := HNB.out
          simp only [List.length_append, str_len] at h5
          omega
        have HP := Lib.hid hp.symm
        have HI := Lib.hid hi
        clear k0 k2 k3 k4 hp hi hs
        go_wp2_with (first
          | (refine wpList_load_cells rfl 48 (.tmp 25) rfl (x.add (k * 6)) rfl q.cs _ hc' Try.underlying48 rfl pt_info ?_)
          | (refine wpList_store_blk rfl 48 (.tmp 8) (.tmp 26) rfl rfl wr.heap.size q.cs.toArray rfl rfl _ _ (Blk.new wr _ _) rfl (by kernel_rfl) ?_ ?_; (exact q.one); intro w3 hb3 hg3; have hxr := hz.grown_ hg3 (by intro j hj; cases hj; exact Nat.le_refl _); have hx3 := hx.trans hxr; have hr3 := hr.ext hxr; have own3 := hown.ext hxr; have hb := Boxed.of hb3; have hB3 := Nat.le_trans hBs hxr.size; have hgb3 := hb3.lt; obtain ⟨b0, b1, b2, b3, b4, b5⟩ := hb; clear hc' hr hown hb3 hg3 hz hx))
        have hneb : some wr.heap.size ≠ some g := fun e => hne (Option.some.inj e)
        have d2 : w3.drew.cell? ⟨wr.heap.size, 2, none⟩ = some (.int .i64 q.n) := b2
        have d2a : ∀ o, ((w3.alloc o).drew).cell? ⟨wr.heap.size, 2, none⟩ = some (.int .i64 q.n) := fun o => ((Ext.refl w3).alloc o).drew.cell b2
        have hg3s : g < w3.heap.size := Nat.lt_of_lt_of_le hgB hB3
        have hc3 := own3.cells
        have hneA := own3.ne
        have HA : ∀ x, Ao = some x → x.block ≠ g := fun x hx => by have := (hneA x hx).1; omega
        clear hneA
        go_region_law (first
          | (refine step_append_lit2 rfl (.tmp 59) (.tmp 60) rfl w3.heap.size (by simp [Act.eval, Act.put]) w3.heap.size (heap_alloc_new w3 _) (Nat.le_refl _) (((Ext.refl w3).alloc _).drew).size Ao N co out (by simp [Act.eval, Act.put]) HN.out (hc3.ext (((Ext.refl w3).alloc _).drew)) (by omega) ?_; intro v5 w5 own5 hg5; have T5 := (Ext.turns (((Ext.refl w3).alloc (.cells #[] 5)).drew) g).row hg5 (fun j e => by cases e; exact Nat.le_refl _); have hr5 := (hr3.ext (((Ext.refl w3).alloc (.cells #[] 5)).drew)).grown hg5 (fun j e => by cases e; exact hg3s); have e2 := T5.cell b2 hneb)
          | (refine step_append_lit2 rfl (.tmp 59) (.tmp 60) rfl w3.heap.size (by simp [Act.eval, Act.put]) w3.heap.size hl6 (Nat.le_refl _) T6.size Ao N co out (by simp [Act.eval, Act.put]) HN.out (T6.cells hc3 HA) (by omega) ?_; intro v5 w5 own5 hg5; have T5 := T6.row hg5 (fun j e => by cases e; exact Nat.le_refl _); have hr7 := hr6.grown hg5 (fun j e => by cases e; exact hg3s))
          | (refine step_append_lit2 rfl (.tmp 59) (.tmp 60) rfl w6.heap.size (by simp [Act.eval, Act.put]) w3.heap.size (heap_alloc_new w6 _) T6.size (Nat.le_trans T6.size ((Ext.refl w6).alloc _).size) Ao N co out (by simp [Act.eval, Act.put]) HN.out ((T6.cells hc3 HA).ext ((Ext.refl w6).alloc _)) (by omega) ?_; intro v5 w5 own5 hg5; have T5 := (T6.trans (Ext.turns ((Ext.refl w6).alloc (.cells #[] 5)) g)).row hg5 (fun j e => by cases e; exact T6.size); have hr7 := (hr6.ext ((Ext.refl w6).alloc (.cells #[] 5))).grown hg5 (fun j e => by cases e; exact Nat.lt_of_lt_of_le hg3s T6.size))
          | (refine step_append_str rfl (.tmp 61) (.tmp 65) rfl w3.heap.size v5 out (by simp [Act.eval, Act.put]) own5 s (by simp [Act.eval, Act.put]) (by have := HN.out; omega) T5.size ?_; intro v7 w7 own7 hg7; have T7 := T5.row hg7 (own_ge own5); have hr8 := hr7.grown hg7 (fun j e => Nat.lt_of_lt_of_le hg3s (own_ge own5 j e)))
          | (refine step_append_str rfl (.tmp 61) (.tmp 65) rfl w3.heap.size v5 out (by simp [Act.eval, Act.put]) own6 s (by simp [Act.eval, Act.put]) (by have := HN.out; omega) T6.size ?_; intro v7 w7 own7 hg7; have T7 := T6.row hg7 (own_ge own6); have hr8 := hr6.grown hg7 (fun j e => Nat.lt_of_lt_of_le hg3s (own_ge own6 j e)))
          | (go_simp; go_at_call 17; (with_reducible refine (rtake_val g r q.n s r' _ hr5 HP.out).mono ?_); rintro e w6 ⟨rfl, hr6, ht6⟩; have T6 := T5.trans ht6; have own6 := own5.turns ht6 hg3s; go_simp)
          | (go_simp; go_at_call 17; (with_reducible refine (rtake_val g r q.n s r' _ (hr3.ext (Ext.refl w3).drew) HP.out).mono ?_); rintro e w6 ⟨rfl, hr6, ht6⟩; have T6 := (Ext.turns (Ext.refl w3).drew g).trans ht6; go_simp)
          | (go_simp; go_at_call 17; (with_reducible refine (rtake_val g r q.n s r' _ (hr3.ext ((Ext.refl w3).alloc _).drew) HP.out).mono ?_); rintro e w6 ⟨rfl, hr6, ht6⟩; have T6 := (Ext.turns ((Ext.refl w3).alloc (.cells #[] 5)).drew g).trans ht6; have hl6 := (ht6.block w3.heap.size (by simp) (fun e => by cases e; omega)).trans (heap_alloc_new w3 (.cells #[] 5)); go_simp))
        all_goals
          go_wp2
          go_roundg r1
          case measure => omega
          case rel => exact ⟨k + 1, _, _, by go_num, by omega, ⟨hr8, HI.out, own7.lower hB3, Nat.le_trans hB3 T7.size⟩, T7.ext hx3 hgw⟩
      · have kb4 : ((q.k == 4) : Bool) = false := by rw [beq_eq_false_iff_ne]; exact k4
        obtain ⟨⟨m, r'⟩, hp⟩ : ∃ p, p = r.int := ⟨_, rfl⟩
        have hi := HV.out.int
        have hm := r.int_lo
        rw [← hp] at hi hm
        have HP := Lib.hid hp.symm
        have HI := Lib.hid hi
        have HM := Lib.hid hm
        clear k0 k2 k3 k4 hp hi hm
        go_wp2_with (first
          | (refine wpList_load_cells rfl 48 (.tmp 25) rfl (x.add (k * 6)) rfl q.cs _ hc' Try.underlying48 rfl pt_info ?_)
          | (refine wpList_store_blk rfl 48 (.tmp 8) (.tmp 26) rfl rfl wr.heap.size q.cs.toArray rfl rfl _ _ (Blk.new wr _ _) rfl (by kernel_rfl) ?_ ?_; (exact q.one); intro w3 hb3 hg3; have hxr := hz.grown_ hg3 (by intro j hj; cases hj; exact Nat.le_refl _); have hx3 := hx.trans hxr; have hr3 := hr.ext hxr; have own3 := hown.ext hxr; have hb := Boxed.of hb3; have hB3 := Nat.le_trans hBs hxr.size; obtain ⟨b0, b1, b2, b3, b4, b5⟩ := hb; clear hc' hr hown hb3 hg3 hz hx)
          | (go_at_call 24; (with_reducible refine (rint_val g r m r' _ hr3 HP.out).mono ?_); rintro e w4 ⟨rfl, hr4, ht4⟩; have hx4 := ht4.ext hx3 hgw; have own4 := own3.turns ht4 hgB; have hc4 := own4.cells; have hB4 := Nat.le_trans hB3 ht4.size; clear hr3 own3 hx3 ht4)
          | (go_at_call 12; (with_reducible refine (int_calls Ao N co out m _ hc4 HN.out hl0 (by omega) HM.out.1 HM.out.2).mono ?_); rintro e w5 ⟨v5, rfl, own5, hx5'⟩; replace own5 := own5.lower hB4; have hr5 := hr4.ext hx5'; have hx5 := hx4.trans hx5'; have hB5 := Nat.le_trans hB4 hx5'.size; clear hx5' own4 hr4 hx4))
        go_roundg r1
        case measure => omega
        case rel => exact ⟨k + 1, _, _, by go_num, by omega, ⟨hr5, HI.out, own5, hB5⟩, hx5⟩
    · have hcv1 := conv_str (P := Try.prog) (c := co) Try.underlying22 Try.underlying5 Try.underlying9 HN.out hco
      have hcv2 := conv_str (P := Try.prog) (c := cb) Try.underlying22 Try.underlying5 Try.underlying9 HNB.out (hb.ext hx)
      clear hco
      cases he : r.end_ with
      | false =>
        go_wp2_with (go_at_call 32; (with_reducible refine (rend_calls g _ _ hr).mono ?_); rintro e w5 ⟨rfl, rfl⟩; rw [he])
        go_ret
        exact ⟨rfl, hx⟩
      | true =>
        have hout : out = bs := by
          unfold PR.end_ at he
          simp only [Bool.and_eq_true, Bool.not_eq_true', beq_iff_eq] at he
          have h3 := HV.out.same he.1
          rw [List.eq_nil_of_length_eq_zero he.2, List.append_nil] at h3
          exact h3
        rw [hout] at hcv1
        clear hout
        go_wp2_with (go_at_call 32; (with_reducible refine (rend_calls g _ _ hr).mono ?_); rintro e w5 ⟨rfl, rfl⟩; rw [he])
        go_ret
        exact ⟨rfl, hx⟩
end Go.Proofs.Ytfohdngnflkfjaa
