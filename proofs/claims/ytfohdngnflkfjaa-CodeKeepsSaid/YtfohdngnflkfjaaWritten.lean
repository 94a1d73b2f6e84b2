/- What writing parts makes: the walk of 'written'. -/
import Derived.Test.YtfohdngnflkfjaaParts
import Derived.Deep.RegionLaw
namespace Go.Proofs.Ytfohdngnflkfjaa
open Go.RowKit
set_option linter.unusedVariables false

def Pt.out (p : Pt) : List UInt8 := if p.k = 0 then uintB p.u else if p.k = 2 then textB p.s.data.toList else if p.k = 4 then p.s.data.toList else intB p.n
def wrs (xs : List Pt) : List UInt8 := xs.flatMap Pt.out
theorem wrs_take (xs : List Pt) (k : Nat) (h : k < xs.length) : wrs (xs.take (k + 1)) = wrs (xs.take k) ++ xs[k].out := by
  unfold wrs
  rw [List.take_succ_eq_append_getElem h, List.flatMap_append]
  simp only [List.flatMap_cons, List.flatMap_nil, List.append_nil]
theorem Pt.out_len (p : Pt) (h : p.Ok) : p.out.length ≤ 10 + p.s.size := by
  unfold Pt.out
  split
  · have := sizeN_64 (n := p.u) (by have := h.u1; omega); unfold sizeN at this; omega
  · split
    · unfold textB
      rw [List.length_append, str_len]
      have := sizeN_64 (n := p.s.size) (by have := h.s1; omega); unfold sizeN at this; omega
    · split
      · rw [str_len]; omega
      · unfold intB
        have := sizeN_64 (n := zig p.n) (by have := zig_lt h.n0 h.n1; simpa using this); unfold sizeN at this; omega
theorem wrs_len (xs : List Pt) (h : ∀ p ∈ xs, p.Ok) : (wrs xs).length ≤ 10 * xs.length + tot xs := by
  induction xs with
  | nil => simp [wrs]
  | cons p xs ih =>
    have h1 := p.out_len (h p (by simp))
    have h2 := ih (fun q hq => h q (by simp [hq]))
    unfold wrs tot at *
    rw [List.flatMap_cons, List.length_append, List.map_cons, List.sum_cons, List.length_cons]
    omega
theorem Pts.ok {w : World} {a : Option Addr} {xs : List Pt} (h : Pts w a xs) : ∀ p ∈ xs, p.Ok := by
  intro p hp
  obtain ⟨i, hi, rfl⟩ := List.mem_iff_getElem.1 hp
  exact (h.get hi).1
theorem wrs_take_len (xs : List Pt) (h : ∀ p ∈ xs, p.Ok) (k : Nat) : (wrs (xs.take k)).length ≤ 10 * xs.length + tot xs := by
  have h1 := wrs_len (xs.take k) (fun p hp => h p (List.mem_of_mem_take hp))
  have h2 := tot_take_le xs k
  have h3 : (xs.take k).length ≤ xs.length := by rw [List.length_take]; omega
  omega

theorem step_append_u8 {ops : Array Oper} {o : Oper} {a : Act} {w : World} {K : Act → World → Prop} {Q : Exit → Act → World → Prop} {E : Prop} (hg : o.guard = none) (s x : Operand)
    (ho : o.op = .call { callee := .builtin .append, args := #[s, x], argTypes := #[22, 22] })
    (B : Nat) (v : Value) (xs : List UInt8) (hs : a.eval s = v) (hown : Own B w v xs)
    (A : Option Addr) (m c : Nat) (ys : List UInt8) (hx : a.eval x = .slice A m c) (hm : ys.length = m) (hr : Cells w A (bv ys))
    (hlen : xs.length + m ≤ 140737488355328) (hbase : B ≤ w.heap.size)
    (h : ∀ v' w', Own B w' v' (xs ++ ys) → w.grownBy w' v.ownBlock → K (a.put o.dst v') w') :
    if Region.wanted o (yielded ops a.tmps) = true then Oper.wp Try.prog o a w K Q else E := by
  have hw : Region.wanted o (yielded ops a.tmps) = true := by simp [Region.wanted, hg]
  rw [if_pos hw]
  exact wp_append_u8 w s x ho B v xs hs hown A m c ys hx hm hr hlen hbase fun v' w' h1 h2 _ => h v' w' h1 h2
theorem step_append_str {ops : Array Oper} {o : Oper} {a : Act} {w : World} {K : Act → World → Prop} {Q : Exit → Act → World → Prop} {E : Prop} (hg : o.guard = none) (s x : Operand)
    (ho : o.op = .call { callee := .builtin .append, args := #[s, x], argTypes := #[22, 9] })
    (B : Nat) (v : Value) (xs : List UInt8) (hs : a.eval s = v) (hown : Own B w v xs) (y : ByteArray) (hx : a.eval x = .string y)
    (hlen : xs.length + y.size ≤ 140737488355328) (hbase : B ≤ w.heap.size)
    (h : ∀ v' w', Own B w' v' (xs ++ y.data.toList) → w.grownBy w' v.ownBlock → K (a.put o.dst v') w') :
    if Region.wanted o (yielded ops a.tmps) = true then Oper.wp Try.prog o a w K Q else E := by
  have hw : Region.wanted o (yielded ops a.tmps) = true := by simp [Region.wanted, hg]
  rw [if_pos hw]
  exact wp_append_str w s x ho B v xs hs hown y hx hlen hbase h

/-- append onto an empty literal. -/
theorem step_append_fresh {ops : Array Oper} {o : Oper} {a : Act} {w : World} {K : Act → World → Prop} {Q : Exit → Act → World → Prop} {E : Prop} (hg : o.guard = none) (s x : Operand)
    (ho : o.op = .call { callee := .builtin .append, args := #[s, x], argTypes := #[22, 22] })
    (g : Nat) (hs : a.eval s = .slice (some ⟨g, 0, none⟩) 0 0) (w3 : World) (hgw : w.heap[g]? = some (.cells #[] 5 (0, 0))) (hE : Ext w3 w) (hgg : w3.heap.size ≤ g)
    (A : Option Addr) (m c : Nat) (ys : List UInt8) (hx : a.eval x = .slice A m c) (hm : ys.length = m) (hr : Cells w A (bv ys))
    (hlen : m ≤ 140737488355328)
    (h : ∀ v' w', Own w3.heap.size w' v' ys → Ext w3 w' → K (a.put o.dst v') w') :
    if Region.wanted o (yielded ops a.tmps) = true then Oper.wp Try.prog o a w K Q else E := by
  have hown : Own w3.heap.size w (.slice (some ⟨g, 0, none⟩) 0 0) [] := ⟨rfl, .inr ⟨g, 0, #[], rfl, hgg, hgw, Nat.le_refl _, by simp [maxLen], rfl, rfl⟩⟩
  refine step_append_u8 hg s x ho w3.heap.size _ [] hs hown A m c ys hx hm hr (by simp; omega) hE.size ?_
  intro v' w' h1 h2
  rw [List.nil_append] at h1
  exact h v' w' h1 (hown.grows hE h2)

/-- The cells of a part that was boxed. -/
structure Boxed (w : World) (g : Nat) (q : Pt) : Prop where
  c0 : w.cell? ⟨g, 0, none⟩ = some (.int .i64 q.k)
  c1 : w.cell? ⟨g, 1, none⟩ = some (.int .u64 q.u)
  c2 : w.cell? ⟨g, 2, none⟩ = some (.int .i64 q.n)
  c3 : w.cell? ⟨g, 3, none⟩ = some (.string q.s)
  c4 : w.cell? ⟨g, 4, none⟩ = some (.int .i64 q.lo)
  c5 : w.cell? ⟨g, 5, none⟩ = some (.int .i64 q.hi)
theorem Boxed.of {w : World} {g : Nat} {t : TypeId} {q : Pt} (h : Blk w g t q.cs.toArray) : Boxed w g q :=
  ⟨by rw [h.cell]; rfl, by rw [h.cell]; rfl, by rw [h.cell]; rfl, by rw [h.cell]; rfl, by rw [h.cell]; rfl, by rw [h.cell]; rfl⟩
theorem Boxed.ext {w w' : World} {g : Nat} {q : Pt} (h : Boxed w g q) (k : Ext w w') : Boxed w' g q :=
  ⟨k.cell h.c0, k.cell h.c1, k.cell h.c2, k.cell h.c3, k.cell h.c4, k.cell h.c5⟩
theorem wrs_step {xs : List Pt} {k : Nat} {q : Pt} {b : List UInt8} (h : wrs (xs.take (k + 1)) = wrs (xs.take k) ++ q.out) (hb : q.out = b) : Value.string (bstr (wrs (xs.take k)) ++ bstr b) = .string (bstr (wrs (xs.take (k + 1)))) := by
  rw [bstr_append, h, hb]

theorem written_calls (A : Option Addr) (n c : Nat) (xs : List Pt) (w : World) (h : Pts w A xs) (hn : xs.length = n) (hl : n ≤ 200) (ht : tot xs ≤ 16384) :
    Calls Try.prog 20 #[.slice A n c] w fun e w' => ∃ v, e = .returned (.tuple #[v, .string (bstr (wrs xs))]) ∧ Own w.heap.size w' v (wrs xs) ∧ Ext w w' := by
  subst hn
  have hlen := wrs_take_len xs h.ok
  go_enter Try.func20, Try.ntmps20
  go_wp2
  go_loopg [4, 5, 10] (xs.length) (fun r v s i wr => ∃ k : Nat, i = .int .i64 k ∧ s = .string (bstr (wrs (xs.take k))) ∧ k + r = xs.length ∧ Aside (Own w.heap.size wr v (wrs (xs.take k))) ∧ Ext w wr)
  case atStart => exact ⟨0, rfl, rfl, by omega, Own.nil _ _, Ext.refl _⟩
  case round =>
    obtain ⟨k, rfl, rfl, hk, hown, hx⟩ := hrel
    by_cases hlt : k < xs.length
    · obtain ⟨x, rfl, hc⟩ := (h.get hlt).2
      have hc' : ∀ j v, xs[k].cs[j]? = some v → wr.cell? ((x.add (k * 6)).add j) = some v := fun j v hv => hx.cell (hc j v hv)
      have hok := (h.get hlt).1
      obtain ⟨q, hq⟩ : ∃ q, q = xs[k] := ⟨_, rfl⟩
      have htk := wrs_take xs k hlt
      rw [← hq] at hc' htk hok
      have HQ := Lib.hid hq
      have HT := Lib.hid htk
      obtain ⟨N, hN⟩ : ∃ N, (wrs (xs.take k)).length = N := ⟨_, rfl⟩
      have hN2 : N ≤ 18384 := by have := hlen k; omega
      obtain ⟨A0, c0, rfl, hl0, hm0, hc0⟩ := hown.out.form_at hN
      have hsb : (bstr (wrs (xs.take k))).size ≤ 18384 := by rw [bstr_size]; omega
      have HN := Lib.hid hN
      have HOK := Lib.hid hok
      have hol : q.out.length ≤ 16394 := by
        have h1 := q.out_len hok
        have h2 := tot_take xs k hlt
        have h3 := tot_take_le xs (k + 1)
        rw [← hq] at h2
        omega
      have hqs : q.s.size ≤ 16384 := by
        have h2 := tot_take xs k hlt
        have h3 := tot_take_le xs (k + 1)
        rw [← hq] at h2
        omega
      have HQS := Lib.hid hqs
      clear hqs hq htk hN hok hc hlen
      have hz : Ext wr (wr.alloc (.cells #[.int .i64 0, .int .u64 0, .int .i64 0, .string ⟨#[]⟩, .int .i64 0, .int .i64 0] 48)) := (Ext.refl _).alloc _
      obtain ⟨r, rfl⟩ : ∃ r, gk = r + 1 := ⟨gk - 1, by omega⟩
      by_cases k0 : q.k = 0
      · have hout : q.out = uintB q.u := by unfold Pt.out; rw [if_pos k0]
        have kb0 : ((q.k == 0) : Bool) = true := by rw [k0]; rfl
        clear k0
        have HO := Lib.hid hout
        have hs2 : (bstr (uintB q.u)).size ≤ 16394 := by rw [bstr_size, ← hout]; omega
        clear hout hol
        go_wp2_with (first
          | (refine wpList_load_cells rfl 48 (.tmp 12) rfl (x.add (k * 6)) rfl q.cs _ hc' Try.underlying48 rfl pt_info ?_)
          | (refine wpList_store_blk rfl 48 (.tmp 7) (.tmp 13) rfl rfl wr.heap.size q.cs.toArray rfl rfl _ _ (Blk.new wr _ _) rfl (by kernel_rfl) ?_ ?_; (exact q.one); intro w3 hb3 hg3; have hxr := hz.grown_ hg3 (by intro j hj; cases hj; exact Nat.le_refl _); have hx3 := hx.trans hxr; have hc3 := hc0.ext hxr; have own3 := hown.out.ext hxr; have hb := Boxed.of hb3; obtain ⟨b0, b1, b2, b3, b4, b5⟩ := hb; clear hc' hc0 hown hb3 hg3 hz)
          | (go_at_call 11; (with_reducible refine (uint_calls A0 N c0 (wrs (xs.take k)) q.u _ hc3 HN.out hl0 (by omega) HOK.out.u1).mono ?_); rintro e w4 ⟨v4, rfl, hown4, hx4'⟩; have own4 := hown4.lower hx3.size; have hx4 := hx3.trans hx4'; have hb4 := (Boxed.mk b0 b1 b2 b3 b4 b5).ext hx4'; obtain ⟨d0, d1, d2, d3, d4, d5⟩ := hb4; clear b0 b1 b2 b3 b4 b5 hown4 hx4' hx3)
          | (go_at_call 15; (with_reducible refine (refUint_calls q.u _ HOK.out.u1).mono ?_); rintro e w5 ⟨rfl, hx5'⟩; have own5 := own4.ext hx5'; have hx5 := hx4.trans hx5'; clear own4 hx5' hx4 d0 d1 d2 d3 d4 d5))
        go_roundg r
        case measure => omega
        case rel => exact ⟨k + 1, by go_num, wrs_step HT.out HO.out, by omega, by rw [HT.out, HO.out]; exact own5, hx5⟩
      have kb0 : ((q.k == 0) : Bool) = false := by rw [beq_eq_false_iff_ne]; exact k0
      by_cases k2 : q.k = 2
      · have hout : q.out = textB q.s.data.toList := by unfold Pt.out; rw [if_neg k0, if_pos k2]
        have kb2 : ((q.k == 2) : Bool) = true := by rw [k2]; rfl
        clear k0 k2
        have HO := Lib.hid hout
        have hs2 : (bstr (textB q.s.data.toList)).size ≤ 16394 := by rw [bstr_size, ← hout]; omega
        clear hout hol
        go_wp2_with (first
          | (refine wpList_load_cells rfl 48 (.tmp 12) rfl (x.add (k * 6)) rfl q.cs _ hc' Try.underlying48 rfl pt_info ?_)
          | (refine wpList_store_blk rfl 48 (.tmp 7) (.tmp 13) rfl rfl wr.heap.size q.cs.toArray rfl rfl _ _ (Blk.new wr _ _) rfl (by kernel_rfl) ?_ ?_; (exact q.one); intro w3 hb3 hg3; have hxr := hz.grown_ hg3 (by intro j hj; cases hj; exact Nat.le_refl _); have hx3 := hx.trans hxr; have hc3 := hc0.ext hxr; have own3 := hown.out.ext hxr; have hb := Boxed.of hb3; obtain ⟨b0, b1, b2, b3, b4, b5⟩ := hb; clear hc' hc0 hown hb3 hg3 hz)
          | (go_at_call 13; (with_reducible refine (text_calls A0 N c0 (wrs (xs.take k)) q.s _ hc3 HN.out hl0 (by have := HQS.out; omega)).mono ?_); rintro e w4 ⟨v4, rfl, hown4, hx4'⟩; have own4 := hown4.lower hx3.size; have hx4 := hx3.trans hx4'; have hb4 := (Boxed.mk b0 b1 b2 b3 b4 b5).ext hx4'; obtain ⟨d0, d1, d2, d3, d4, d5⟩ := hb4; clear b0 b1 b2 b3 b4 b5 hown4 hx4' hx3)
          | (go_at_call 16; (with_reducible refine (refText_calls q.s _ HOK.out.s1).mono ?_); rintro e w5 ⟨rfl, hx5'⟩; have own5 := own4.ext hx5'; have hx5 := hx4.trans hx5'; clear own4 hx5' hx4 d0 d1 d2 d3 d4 d5))
        go_roundg r
        case measure => omega
        case rel => exact ⟨k + 1, by go_num, wrs_step HT.out HO.out, by omega, by rw [HT.out, HO.out]; exact own5, hx5⟩
      have kb2 : ((q.k == 2) : Bool) = false := by rw [beq_eq_false_iff_ne]; exact k2
      by_cases k4 : q.k = 4
      · have hout : q.out = q.s.data.toList := by unfold Pt.out; rw [if_neg k0, if_neg k2, if_pos k4]
        have kb4 : ((q.k == 4) : Bool) = true := by rw [k4]; rfl
        have HO := Lib.hid hout
        clear k0 k2 k4 hout hol
        go_wp2_with (first
          | (refine wpList_load_cells rfl 48 (.tmp 12) rfl (x.add (k * 6)) rfl q.cs _ hc' Try.underlying48 rfl pt_info ?_)
          | (refine wpList_store_blk rfl 48 (.tmp 7) (.tmp 13) rfl rfl wr.heap.size q.cs.toArray rfl rfl _ _ (Blk.new wr _ _) rfl (by kernel_rfl) ?_ ?_; (exact q.one); intro w3 hb3 hg3; have hxr := hz.grown_ hg3 (by intro j hj; cases hj; exact Nat.le_refl _); have hx3 := hx.trans hxr; have hc3 := hc0.ext hxr; have own3 := hown.out.ext hxr; have hb := Boxed.of hb3; obtain ⟨b0, b1, b2, b3, b4, b5⟩ := hb; clear hc' hc0 hown hb3 hg3 hz))
        have hs3 := hx3.size
        have hq4 := HQS.out
        have b3d : w3.drew.cell? ⟨wr.heap.size, 3, none⟩ = some (.string q.s) := b3
        have b3a : ∀ o, ((w3.alloc o).drew).cell? ⟨wr.heap.size, 3, none⟩ = some (.string q.s) := fun o => ((Ext.refl w3).alloc o).drew.cell b3
        have b3b : ∀ o, (w3.drew.alloc o).cell? ⟨wr.heap.size, 3, none⟩ = some (.string q.s) := fun o => ((Ext.refl w3).drew.alloc o).cell b3
        have hlz : N + q.s.size ≤ 40000 := by have := HQS.out; omega
        have HLZ := Lib.hid hlz
        clear hlz
        go_region_law (first
          | (refine step_append_fresh rfl (.tmp 49) (.tmp 50) rfl w3.heap.size (by simp [Act.eval, Act.put]) w3 (heap_alloc_new w3 _) (((Ext.refl w3).alloc _).drew) (Nat.le_refl _) A0 N c0 (wrs (xs.take k)) (by simp [Act.eval, Act.put]) HN.out (hc3.ext (((Ext.refl w3).alloc _).drew)) (by omega) ?_; intro v5 w5 own5 hx35; have e3 := hx35.cell b3)
          | (refine step_append_str rfl (.tmp 51) (.tmp 53) rfl w3.heap.size v5 (wrs (xs.take k)) (by simp [Act.eval, Act.put]) own5 q.s (by simp [Act.eval, Act.put]) (by have := HLZ.out; have := HN.out; omega) hx35.size ?_; intro v6 w6 own6 hg6; have hx36 : Ext w3 w6 := own5.grows hx35 hg6; have e6 := hx36.cell b3; have hx6 := hx3.trans hx36; replace own6 := own6.lower hs3))
        all_goals
          go_wp2
          go_roundg r
          case measure => omega
          case rel => exact ⟨k + 1, by go_num, by rw [HT.out, HO.out, ← bstr_append, bstr_of], by omega, by rw [HT.out, HO.out]; exact own6, hx6⟩
      · have hout : q.out = intB q.n := by unfold Pt.out; rw [if_neg k0, if_neg k2, if_neg k4]
        have kb4 : ((q.k == 4) : Bool) = false := by rw [beq_eq_false_iff_ne]; exact k4
        clear k0 k2 k4
        have HO := Lib.hid hout
        have hs2 : (bstr (intB q.n)).size ≤ 16394 := by rw [bstr_size, ← hout]; omega
        clear hout hol
        go_wp2_with (first
          | (refine wpList_load_cells rfl 48 (.tmp 12) rfl (x.add (k * 6)) rfl q.cs _ hc' Try.underlying48 rfl pt_info ?_)
          | (refine wpList_store_blk rfl 48 (.tmp 7) (.tmp 13) rfl rfl wr.heap.size q.cs.toArray rfl rfl _ _ (Blk.new wr _ _) rfl (by kernel_rfl) ?_ ?_; (exact q.one); intro w3 hb3 hg3; have hxr := hz.grown_ hg3 (by intro j hj; cases hj; exact Nat.le_refl _); have hx3 := hx.trans hxr; have hc3 := hc0.ext hxr; have own3 := hown.out.ext hxr; have hb := Boxed.of hb3; obtain ⟨b0, b1, b2, b3, b4, b5⟩ := hb; clear hc' hc0 hown hb3 hg3 hz)
          | (go_at_call 12; (with_reducible refine (int_calls A0 N c0 (wrs (xs.take k)) q.n _ hc3 HN.out hl0 (by omega) HOK.out.n0 HOK.out.n1).mono ?_); rintro e w4 ⟨v4, rfl, hown4, hx4'⟩; have own4 := hown4.lower hx3.size; have hx4 := hx3.trans hx4'; have hb4 := (Boxed.mk b0 b1 b2 b3 b4 b5).ext hx4'; obtain ⟨d0, d1, d2, d3, d4, d5⟩ := hb4; clear b0 b1 b2 b3 b4 b5 hown4 hx4' hx3)
          | (go_at_call 36; (with_reducible refine (refInt_calls q.n _ HOK.out.n0 HOK.out.n1).mono ?_); rintro e w5 ⟨rfl, hx5'⟩; have own5 := own4.ext hx5'; have hx5 := hx4.trans hx5'; clear own4 hx5' hx4 d0 d1 d2 d3 d4 d5))
        go_roundg r
        case measure => omega
        case rel => exact ⟨k + 1, by go_num, wrs_step HT.out HO.out, by omega, by rw [HT.out, HO.out]; exact own5, hx5⟩
    · obtain rfl : k = xs.length := by omega
      rw [List.take_length] at hown ⊢
      go_wp2
      go_ret2
      exact ⟨u4, rfl, hown.out, hx⟩
end Go.Proofs.Ytfohdngnflkfjaa
