/- Nets and pools side by side; alive; great. Printed by wip/mknetlaw.py. -/
import Derived.Test.YthleaofgodkehaaAskAll
namespace Go.Proofs.Ythleaofgodkehaa
open Go.RowKit
set_option linter.unusedVariables false

theorem cell_same {w w' : World} {a : Addr} (h : w'.heap[a.block]? = w.heap[a.block]?) : w'.cell? a = w.cell? a := by unfold World.cell?; rw [h]
theorem Cells.same {w w' : World} {A : Option Addr} {cs : List Value} (h : Cells w A cs) (hs : ∀ x, A = some x → w'.heap[x.block]? = w.heap[x.block]?) : Cells w' A cs := by
  intro i v hv
  obtain ⟨x, hx, hc⟩ := h i v hv
  exact ⟨x, hx, (cell_same (by rw [block_add]; exact hs x hx)).trans hc⟩
theorem Fates.same {w w' : World} {v : Value} {fs : List UInt8} (h : Fates w v fs) (hs : ∀ k cur, Blk w k 5 cur → w'.heap[k]? = w.heap[k]?) : Fates w' v fs := by
  obtain ⟨A, c, e, l, hc, hb⟩ := h
  refine ⟨A, c, e, l, hc.same (fun x hx => by obtain ⟨cur, hk⟩ := hb x hx; exact hs _ _ hk), fun x hx => ?_⟩
  obtain ⟨cur, hk⟩ := hb x hx
  exact ⟨cur, (hs _ _ hk).trans hk⟩
/-- A pool's Put leaves a net as it is. -/
theorem NetAt.put {B n k b : Nat} {w w' : World} {q : Option Nat} {fs : List UInt8} {ls : List ByteArray} {L : List Ent1} (h : NetAt B w n q fs ls k) (hm : MapB w b L) (hg : w.grownBy w' (some b)) : NetAt B w' n q fs ls k := by
  obtain ⟨fv, qv, hb, hf, hq⟩ := h
  exact ⟨fv, qv, hb.grown hg (fun e => hm.ne_blk hb (Option.some.inj e)), hf.grown hg (fun j cur hj e => hm.ne_blk hj (Option.some.inj e)), hq.grown hg (fun j hj e => by obtain ⟨cur, hc⟩ := hq.str j hj; exact hm.ne_blk hc (Option.some.inj e))⟩
theorem NetAt.lt {B n k : Nat} {w : World} {q : Option Nat} {fs : List UInt8} {ls : List ByteArray} (h : NetAt B w n q fs ls k) : n < w.heap.size ∧ ∀ j, q = some j → j < w.heap.size := by
  obtain ⟨fv, qv, hb, hf, hq⟩ := h
  exact ⟨hb.lt, fun j hj => by obtain ⟨cur, hc⟩ := hq.str j hj; exact hc.lt⟩
/-- Another net's Ask leaves a net as it is. -/
theorem NetAt.two {B B' n n' k k' : Nat} {w w' : World} {q q' : Option Nat} {fs fs' : List UInt8} {ls ls' : List ByteArray} (h : NetAt B w n q fs ls k) (h' : NetAt B' w n' q' fs' ls' k') (t : Two w w' n' q') (hne : n ≠ n') (hqq : ∀ j, q = some j → some j ≠ q') : NetAt B w' n q fs ls k := by
  obtain ⟨fv, qv, hb, hf, hq⟩ := h
  obtain ⟨fv', qv', hb', hf', hq'⟩ := h'
  refine ⟨fv, qv, t.blk hb hne (fun e => by obtain ⟨cur, hc⟩ := hq'.str n e.symm; exact hb.ne hc (Ne.symm ne_types.1.2.1) rfl), hf.same (fun j cur hj => t.block j hj.lt (hj.ne hb' ne_types.1.1) (fates_ne hq' j cur hj)), hq.same (fun j hj => ?_)⟩
  obtain ⟨cur, hc⟩ := hq.str j hj
  exact t.block j hc.lt (hc.ne hb' ne_types.1.2.1) (hqq j hj)
theorem askP_len (fs : List UInt8) (ls : List ByteArray) (r : Option ByteArray) : (askP fs ls r).2.1.length ≤ ls.length + 1 := by
  unfold askP
  split
  · exact Nat.le_succ _
  · split
    · exact Nat.le_succ _
    · simp only [goP]
      repeat' split
      all_goals simp
theorem NetAt.lower {B B' n k : Nat} {w : World} {q : Option Nat} {fs : List UInt8} {ls : List ByteArray} (h : NetAt B w n q fs ls k) (hB : B' ≤ B) : NetAt B' w n q fs ls k := by
  obtain ⟨fv, qv, hb, hf, hq⟩ := h
  refine ⟨fv, qv, hb, hf, ?_⟩
  rcases hq with h | ⟨g, off, cap, cur, e1, e2, hg, r⟩
  · exact .inl h
  · exact .inr ⟨g, off, cap, cur, e1, e2, Nat.le_trans hB hg, r⟩
/-- Ask, what comes being told. -/
theorem ask_told {B n : Nat} {q : Option Nat} {fs : List UInt8} {ls : List ByteArray} {k : Nat} {w : World} {gp b : Nat} {L : List Ent1} {x : List UInt8} {fs' : List UInt8} {ls' : List ByteArray} {r : Option ByteArray} {S : ByteArray} {T : Bool}
    (h : NetAt B w n q fs ls k) (hk : k < 1000000) (hB : B ≤ w.heap.size) (hls : ls.length ≤ 100000) (hp : PoolAt w gp b L) (hx : x.length = 33) (hR : askP fs ls (at1 x L) = (fs', ls', r)) (hS : S = r.getD ByteArray.empty) (hT : T = r.isSome) :
    Calls Try.prog 13 #[.pointer (some ⟨n, 0, none⟩), .iface 27 (.pointer (some ⟨gp, 0, none⟩)), .agg (bv x).toArray] w fun e w' => ∃ q', e = .returned (.tuple #[.string S, .bool T]) ∧ NetAt B w' n q' fs' ls' (k + 1) ∧ Two w w' n q ∧ (q' = q ∨ ∃ j, q' = some j ∧ w.heap.size ≤ j) := by
  have h := ask_calls B n q fs ls k w h hk hB hls gp b L hp x hx
  rw [hR] at h
  subst hS hT
  exact h
def Apart (p q : Option Nat) : Prop := ∀ j, p = some j → some j ≠ q
theorem Apart.symm {p q : Option Nat} (h : Apart p q) : Apart q p := fun j hj e => h j e.symm hj.symm
theorem Apart.fresh {w : World} {B n k : Nat} {p q p' : Option Nat} {fs : List UInt8} {ls : List ByteArray} (h : Apart p q) (hq : NetAt B w n q fs ls k) (hp : p' = p ∨ ∃ j, p' = some j ∧ w.heap.size ≤ j) : Apart p' q := by
  intro j hj e
  rcases hp with e1 | ⟨i, e1, l⟩
  · exact h j (by rw [← e1]; exact hj) e
  · rw [e1] at hj
    cases hj
    have := hq.lt.2 j e.symm
    omega
theorem PoolAt.put {w w' : World} {g b g' b' : Nat} {L L' : List Ent1} (h : PoolAt w g b L) (h' : PoolAt w g' b' L') (hb : b ≠ b') (hg : w.grownBy w' (some b')) : PoolAt w' g b L :=
  h.past hg (fun e => h'.map.ne_blk h.blk (Option.some.inj e)) (fun e => hb (Option.some.inj e))
theorem id_cells {w : World} {g : Nat} {x : List UInt8} (h : Blk w g 38 (bv x).toArray) : ∀ (j : Nat) (v : Value), (bv x)[j]? = some v → w.cell? ((⟨g, 0, none⟩ : Addr).add j) = some v := fun j v hv => by
  rw [add_new, h.cell, ← Array.getElem?_toList, List.toList_toArray]
  exact hv
theorem id_head {w : World} {g : Nat} {x : List UInt8} (h : Blk w g 38 (bv x).toArray) (hx : x.length = 33) : w.cell? ⟨g, 0, none⟩ = some (.int .u8 (x.headD 0).toNat) := by
  cases x with
  | nil => cases hx
  | cons a x => rw [h.cell]; rfl
def idK (c : UInt8) : List UInt8 := c :: List.replicate 32 0
theorem idK_len (c : UInt8) : (idK c).length = 33 := rfl
theorem row_one {w : World} {g : Nat} {o : Ent1} (h : Blk w g 46 (obC o).toArray) (ho : o.1.length = 33) : Row w (some ⟨g, 0, none⟩) 34 ([o].map obC) := by
  intro i cs hi
  match i, hi with
  | 0, hi =>
    simp only [List.map_cons, List.map_nil, List.getElem?_cons_zero, Option.some.injEq] at hi
    subst hi
    refine ⟨obC_len ho, _, rfl, fun j v hv => ?_⟩
    rw [Nat.zero_mul, add_zero, add_new, h.cell, ← Array.getElem?_toList, List.toList_toArray]
    exact hv
  | i + 1, hi => simp at hi

set_option maxRecDepth 50000 in
set_option maxHeartbeats 4000000 in
theorem net_alive (w : World) : Calls Try.prog 8 #[] w fun e w' => e = .returned (.bool true) ∧ Ext w w' := by
  have ID1 : ∀ (n : Nat) (p : Value) (w : World) (Q : Ending → World → Prop), Calls Try.prog 13 #[.pointer (some ⟨n, 0, none⟩), p, .agg (bv (idK 1)).toArray] w Q → Calls Try.prog 13 #[.pointer (some ⟨n, 0, none⟩), p, .agg #[.int .u8 1, .int .u8 0, .int .u8 0, .int .u8 0, .int .u8 0, .int .u8 0, .int .u8 0, .int .u8 0, .int .u8 0, .int .u8 0, .int .u8 0, .int .u8 0, .int .u8 0, .int .u8 0, .int .u8 0, .int .u8 0, .int .u8 0, .int .u8 0, .int .u8 0, .int .u8 0, .int .u8 0, .int .u8 0, .int .u8 0, .int .u8 0, .int .u8 0, .int .u8 0, .int .u8 0, .int .u8 0, .int .u8 0, .int .u8 0, .int .u8 0, .int .u8 0, .int .u8 0]] w Q := fun _ _ _ _ h => h
  have d0 : 0 < 1000000 ∧ 1 < 1000000 ∧ 2 < 1000000 ∧ 1 ≤ 140737488351232 ∧ 3 ≤ 140737488351232 := by decide
  have l0 : ([] : List ByteArray).length ≤ 100000 ∧ ([⟨#[120]⟩] : List ByteArray).length ≤ 100000 := by decide
  have hone : ∀ p ∈ [((idK 1, ⟨#[120]⟩) : Ent1)], p.1.length = 33 := fun p hp => by rw [List.mem_singleton] at hp; subst hp; rfl
  go_enter Try.func8, Try.ntmps8
  go_wp2_with (first
    | (go_at_call 10; (with_reducible refine (newPool_calls w).mono ?_); rintro e w1 ⟨g, b, rfl, hg, hb, hP, hx1⟩)
    | (go_at_call 11; have hrow := row_one (o := (idK 1, ⟨#[120]⟩)) (show Blk (w1.alloc (.cells #[.int .u8 1, .int .u8 0, .int .u8 0, .int .u8 0, .int .u8 0, .int .u8 0, .int .u8 0, .int .u8 0, .int .u8 0, .int .u8 0, .int .u8 0, .int .u8 0, .int .u8 0, .int .u8 0, .int .u8 0, .int .u8 0, .int .u8 0, .int .u8 0, .int .u8 0, .int .u8 0, .int .u8 0, .int .u8 0, .int .u8 0, .int .u8 0, .int .u8 0, .int .u8 0, .int .u8 0, .int .u8 0, .int .u8 0, .int .u8 0, .int .u8 0, .int .u8 0, .int .u8 0, .string { data := #[120] }] 46)) _ _ (obC (idK 1, ⟨#[120]⟩)).toArray from Blk.new w1 _ _) rfl; (with_reducible refine (put_calls g b [] [(idK 1, ⟨#[120]⟩)] (some ⟨w1.heap.size, 0, none⟩) 1 1 _ (hP.ext ((Ext.refl _).alloc _)) hrow rfl d0.2.2.2.1 hone).mono ?_); rintro e w2 ⟨rfl, hP2, hg2⟩; have hx2 : Ext w w2 := (hx1.alloc (.cells #[.int .u8 1, .int .u8 0, .int .u8 0, .int .u8 0, .int .u8 0, .int .u8 0, .int .u8 0, .int .u8 0, .int .u8 0, .int .u8 0, .int .u8 0, .int .u8 0, .int .u8 0, .int .u8 0, .int .u8 0, .int .u8 0, .int .u8 0, .int .u8 0, .int .u8 0, .int .u8 0, .int .u8 0, .int .u8 0, .int .u8 0, .int .u8 0, .int .u8 0, .int .u8 0, .int .u8 0, .int .u8 0, .int .u8 0, .int .u8 0, .int .u8 0, .int .u8 0, .int .u8 0, .string { data := #[120] }] 46)).grown_ hg2 (fun k e => by cases e; exact hb))
    | (go_at_call 12; (with_reducible refine (netNew_calls (some ⟨w2.heap.size, 0, none⟩) 3 3 [1, 0, 3] _ (Cells.lit rfl [.int .u8 1, .int .u8 0, .int .u8 3] _ _) rfl (Nat.le_refl _) d0.2.2.2.2).mono ?_); rintro e w3 ⟨n, rfl, hn, hN, hx3⟩; have hx23 := (Ext.refl w2).alloc (.cells #[.int .u8 1, .int .u8 0, .int .u8 3] 5) |>.trans hx3; have hP3 := hP2.ext hx23; have hn0 := Nat.le_trans hx2.size (Nat.le_trans ((Ext.refl w2).alloc (.cells #[.int .u8 1, .int .u8 0, .int .u8 3] 5)).size hn); have hB3 := hx3.size; have hx03 := hx2.trans hx23)
    | (go_at_call 13; have ha4 := ID1 n (.iface 27 (.pointer (some ⟨g, 0, none⟩))) w3 _ (show AskC _ n none [1, 0, 3] [] 0 w3 g (idK 1) [0, 3] [] none from ask_calls _ n none [1, 0, 3] [] 0 w3 hN d0.1 hB3 l0.1 g b _ hP3 (idK 1) (idK_len 1)); (with_reducible refine ha4.mono ?_); rintro e w4 ⟨q4, he, hN4, ht4, hq4⟩; obtain rfl : e = .returned (.tuple #[.string ByteArray.empty, .bool false]) := he; have hP4 := hP3.two hN ht4)
    | (go_at_call 13; have ha5 := ID1 n (.iface 27 (.pointer (some ⟨g, 0, none⟩))) w4 _ (show AskC _ n q4 [0, 3] [] 1 w4 g (idK 1) [] [⟨#[120]⟩] none from ask_calls _ n q4 [0, 3] [] 1 w4 hN4 d0.2.1 (Nat.le_trans hB3 ht4.size) l0.1 g b _ hP4 (idK 1) (idK_len 1)); (with_reducible refine ha5.mono ?_); rintro e w5 ⟨q5, he, hN5, ht5, hq5⟩; obtain rfl : e = .returned (.tuple #[.string ByteArray.empty, .bool false]) := he; have hP5 := hP4.two hN4 ht5)
    | (go_at_call 13; have ha6 := ID1 n (.iface 27 (.pointer (some ⟨g, 0, none⟩))) w5 _ (show AskC _ n q5 [] [⟨#[120]⟩] 2 w5 g (idK 1) [] [⟨#[120]⟩] (some ⟨#[120]⟩) from ask_calls _ n q5 [] [⟨#[120]⟩] 2 w5 hN5 d0.2.2.1 (Nat.le_trans hB3 (Nat.le_trans ht4.size ht5.size)) l0.2 g b _ hP5 (idK 1) (idK_len 1)); (with_reducible refine ha6.mono ?_); rintro e w6 ⟨q6, he, hN6, ht6, hq6⟩; obtain rfl : e = .returned (.tuple #[.string ⟨#[120]⟩, .bool true]) := he)
    | (go_at_call 17; (with_reducible refine (late_calls _ n q6 [] [⟨#[120]⟩] 3 w6 hN6).mono ?_); rintro e w7 ⟨rfl, rfl⟩)
    | (go_at_call 16; (with_reducible refine (asked_calls _ n q6 [] [⟨#[120]⟩] 3 w6 hN6).mono ?_); rintro e w8 ⟨rfl, rfl⟩))
  go_ret
  have hq3 : ∀ j, (none : Option Nat) = some j → w.heap.size ≤ j := fun j h => by cases h
  have hx4 := ht4.ext hx03 hn0 hq3
  have hq4' : ∀ j, q4 = some j → w.heap.size ≤ j := fun j h => by rcases hq4 with e | ⟨i, e, l⟩ <;> rw [e] at h <;> cases h; exact Nat.le_trans hx03.size l
  have hx5 := ht5.ext hx4 hn0 hq4'
  have hq5' : ∀ j, q5 = some j → w.heap.size ≤ j := fun j h => by
    rcases hq5 with e | ⟨i, e, l⟩
    · exact hq4' j (by rw [← e]; exact h)
    · rw [e] at h
      cases h
      exact Nat.le_trans hx4.size l
  exact ⟨rfl, ht6.ext hx5 hn0 hq5'⟩

set_option maxRecDepth 50000 in
set_option maxHeartbeats 4000000 in
theorem net_great (os : List Ent1) (A : Option Addr) (n c : Nat) (w : World) (hr : Row w A 34 (os.map obC)) (hn : os.length = n) (hl : n ≤ 140737488351232) (hi : ∀ p ∈ os, p.1.length = 33 ∧ p.2.size ≤ 140737488351232) :
    Calls Try.prog 9 #[.slice A n c] w fun e w' => (∃ b, e = .returned (.bool b)) ∧ Ext w w' := by
  have Hr := Lib.hid hr
  have Hi := Lib.hid hi
  have Hn := Lib.hid hn
  clear hr hi hn
  go_enter Try.func9, Try.ntmps9
  go_upto_region 3 with (fail)
  go_loopw [8, 3] (fun i v wr => ∃ (k m : Nat), k ≤ n ∧ i = .int .i64 k ∧ v = .int .i64 m ∧ m ≤ 4096 ∧ Ext w wr) (fun i _ _ => n - (intOf i).toNat)
  case atStart => exact ⟨0, 0, Nat.zero_le _, rfl, rfl, by omega, Ext.refl _⟩
  case round =>
    obtain ⟨k, m, hk, rfl, rfl, hm, hx⟩ := hrel
    by_cases hlt : k < n
    · have hkl : k < os.length := by rw [Hn.out]; exact hlt
      obtain ⟨x, rfl, hlc0⟩ := Hr.out.get (i := k) (by simpa using hkl)
      rw [List.getElem_map] at hlc0
      obtain ⟨hol, hs⟩ := Hi.out _ (List.getElem_mem hkl)
      obtain ⟨o, ho⟩ : ∃ o, o = os[k] := ⟨_, rfl⟩
      rw [← ho] at hlc0 hol hs
      have hlc : ∀ (j : Nat) (v : Value), (obC o)[j]? = some v → wr.cell? ((x.add (k * 34)).add j) = some v := fun j v hj => hx.cell (hlc0 j v hj)
      have HOL := Lib.hid hol
      clear ho hlc0 hol
      have hp0 : (0 : Int) ≤ (k : Int) := by omega
      have hp1 : (k : Int) < (n : Int) := by omega
      go_upto_region 5 with (first
        | (refine wpList_load_row_ rfl 46 (.tmp 10) rfl (x.add (k * 34)) rfl (obC o) _ hlc Try.underlying46 rfl (by rw [ob_info, obC_len HOL.out]) ?_)
        | (refine wpList_store_blk rfl 46 (.tmp 5) (.tmp 11) rfl rfl wr.heap.size (obC o).toArray rfl rfl _ _ (Blk.new wr _ _) (by rw [List.size_toArray, obC_len HOL.out]; rfl) (by kernel_rfl) (obC_one o) ?_; intro w3 hb3 hg3; have hx3 : Ext wr w3 := ((Ext.refl _).alloc _).grown_ hg3 (by simp)))
      clear hlc hg3
      have p0 := (ob_cells hb3 HOL.out).2
      clear hb3
      by_cases hbig : (4096 : Int) < (m : Int) + (1 + (o.2.size : Int))
      · go_wp2
        go_ret
        exact ⟨⟨_, rfl⟩, hx.trans hx3⟩
      · go_wp2
        go_roundw
        case rel => exact ⟨k + 1, m + (1 + o.2.size), by omega, by go_num, by go_num, by omega, hx.trans hx3⟩
        case measure => simp [intOf]; omega
    · obtain rfl : k = n := by omega
      go_wp2
      go_ret
      exact ⟨⟨_, rfl⟩, hx⟩
end Go.Proofs.Ythleaofgodkehaa
