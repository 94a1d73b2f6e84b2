/- table.Of: the table of writes. Printed by wip/mktabof.py. -/
import Derived.Test.YtnggdkpaofbaaaaTabSort
import Derived.Test.YtnggdkpaofbaaaaRowFacts
import Derived.Great.BuildSlice
namespace Go.Proofs.Ytnggdkpaofbaaaa
open Go.RowKit Go.Sort Go.ChangeMaps
set_option linter.unusedVariables false

theorem run_litw {P : Program} (w : World) (t e : TypeId) (v : Value) (cells : Array Value) (sz : Nat) (z : Value) (hu : P.underlying t = some (.slice e)) (hi : (P.info? e).map (fun i => (i.zero, i.size)) = some (some z, sz)) (hs : ¬ 1 * sz > 2 ^ 24) (hp : ¬ 1 * sz = 0)
    (h : Instr.fill (fun i => some (i * sz, sz)) ((Array.range (1 * sz)).map (z.cells[· % z.cells.size]!)) [(0, v)] = some cells) :
    (Instr.buildSlice t 1 #[(0, v)]).run P w = .ok (.slice (some ⟨w.heap.size, 0, none⟩) 1 1) (w.alloc (.cells cells e)) := by
  obtain ⟨ie, hie, hzz⟩ := Option.map_eq_some_iff.1 hi
  simp only [Prod.mk.injEq] at hzz
  obtain ⟨hz, hsz⟩ := hzz
  subst hsz
  exact run_buildSlice w t e 1 #[(0, v)] cells ie z hu hie hz hs hp h
theorem lit1_w (w : World) (x : W3) : (Instr.buildSlice 22 1 #[(0, wV x)]).run Try.prog w = .ok (.slice (some ⟨w.heap.size, 0, none⟩) 1 1) (w.alloc (.cells (wC x).toArray 46)) :=
  run_litw w 22 46 _ _ 3 (.agg #[.string ByteArray.empty, .string ByteArray.empty, .bool false]) Try.underlying22 (by kernel_rfl) (by decide) (by decide) (by kernel_rfl)
theorem st_writes (w : World) (p : Addr) (A : Option Addr) (n c : Nat) (old : Value) (h : w.cell? p = some old) (hf : w.frozen? p = false) : (Instr.storeAt 22 (.pointer (some p)) (.slice A n c)).run Try.prog w = .ok () (w.setCell p (.slice A n c)) := by go_simp
theorem w_info : (Try.prog.info? 46).map (·.size) = some 3 := by kernel_rfl
theorem w_snoc (d : List W3) (x : W3) : (d.map wC).flatten ++ wC x = ((d ++ [x]).map wC).flatten := by simp
theorem blk_cells {w : World} {g : Nat} {t : TypeId} {l : List Value} (h : Blk w g t l.toArray) : ∀ j v, l[j]? = some v → w.cell? ((⟨g, 0, none⟩ : Addr).add j) = some v := fun j v hv => by
  rw [add_new, h.cell, ← Array.getElem?_toList, List.toList_toArray]
  exact hv
/-- A table in memory. -/
def TabAt (B : Nat) (w : World) (p : Nat) (l : List W3) : Prop := ∃ A c, Blk w p 66 #[.slice A l.length c] ∧ w.ownsRow B 46 3 (.slice A l.length c) l.length (l.map wC).flatten
theorem TabAt.ext {B : Nat} {w w' : World} {p : Nat} {l : List W3} (h : TabAt B w p l) (k : Ext w w') : TabAt B w' p l := by
  obtain ⟨A, c, h1, h2⟩ := h
  exact ⟨A, c, h1.ext k, own_ext h2 k⟩
theorem TabAt.lower {B B' : Nat} {w : World} {p : Nat} {l : List W3} (h : TabAt B w p l) (hb : B' ≤ B) : TabAt B' w p l := by
  obtain ⟨A, c, h1, h2⟩ := h
  exact ⟨A, c, h1, own_lower h2 hb⟩
/-- The iterator and the map that it goes over. -/
def IterAt (r b cl : Nat) (es : Array MapEntry) (seen : Array Nat) (u : World) : Prop := u.heap[r]? = some (.mapIter (some b) cl seen cl) ∧ u.heap[b]? = some (.map es cl)
theorem IterAt.stays {r b cl B : Nat} {es : Array MapEntry} {seen : Array Nat} (hr : r < B) (hb : b < B) : Stays B (IterAt r b cl es seen) := fun w w' row h hg hk => by
  obtain ⟨h1, h2⟩ := h
  have l1 := (Array.getElem?_eq_some_iff.1 h1).1
  have l2 := (Array.getElem?_eq_some_iff.1 h2).1
  exact ⟨(hg.block r l1 (fun e => by have := hk r e.symm; omega)).trans h1, (hg.block b l2 (fun e => by have := hk b e.symm; omega)).trans h2⟩
theorem IterAt.other {r b cl q : Nat} {es : Array MapEntry} {seen : Array Nat} {w w' : World} (h : IterAt r b cl es seen w) (hg : w.grownBy w' (some q)) (h1 : r ≠ q) (h2 : b ≠ q) : IterAt r b cl es seen w' := by
  obtain ⟨k1, k2⟩ := h
  exact ⟨(hg.block r (Array.getElem?_eq_some_iff.1 k1).1 (fun e => h1 (Option.some.inj e))).trans k1, (hg.block b (Array.getElem?_eq_some_iff.1 k2).1 (fun e => h2 (Option.some.inj e))).trans k2⟩
theorem heap_setBlock {w : World} {r : Nat} {o : Obj} (h : r < w.heap.size) : (setBlock w r o).heap[r]? = some o := by simp [setBlock, h]
theorem grown_setBlock (w : World) (r : Nat) (o : Obj) : w.grownBy (setBlock w r o) (some r) := ⟨rfl, rfl, rfl, by simp [setBlock], fun k _ hk => by
  have : k ≠ r := fun e => hk (by rw [e])
  simp [setBlock, Array.getElem?_setIfInBounds_ne (Ne.symm this)]⟩
/-- What the loop over the map has handed out. -/
structure Handed (es : Array MapEntry) (seen : Array Nat) (done : List MapEntry) (d : List W3) : Prop where
  sub : ∀ e ∈ done, e ∈ es.toList
  nd : (done.map (·.born)).Nodup
  seen : seen.toList = done.map (·.born)
  ents : entsS d done
theorem Handed.start (es : Array MapEntry) : Handed es #[] [] [] := ⟨fun e h => (by cases h), (by simp), rfl, rfl⟩
theorem Handed.push {es : Array MapEntry} {seen : Array Nat} {done : List MapEntry} {d : List W3} (h : Handed es seen done d) {e : MapEntry} {x : W3} (he : e ∈ es.toList) (hns : seen.contains e.born = false) (hk : e.key = .string x.1) (hv : e.val = wV x) : Handed es (seen.push e.born) (done ++ [e]) (d ++ [x]) := by
  refine ⟨fun y hy => ?_, ?_, ?_, ?_⟩
  · rcases List.mem_append.1 hy with hy | hy
    · exact h.sub y hy
    · rw [List.mem_singleton] at hy; rw [hy]; exact he
  · rw [List.map_append]
    refine List.nodup_append.2 ⟨h.nd, by simp, fun a ha b hb => ?_⟩
    simp only [List.map_cons, List.map_nil, List.mem_singleton] at hb
    subst hb
    intro e2
    rw [← h.seen] at ha
    have : seen.contains e.born = true := by rw [Array.contains_iff_mem, ← e2]; exact Array.mem_toList_iff.1 ha
    rw [hns] at this
    cases this
  · rw [Array.toList_push, h.seen, List.map_append]
    rfl
  · unfold entsS
    rw [List.map_append, List.map_append, h.ents, List.map_cons, List.map_nil, List.map_cons, List.map_nil, hk, hv]
theorem putM_len (w : W3) : ∀ L : List W3, (putM w L).length ≤ L.length + 1
  | [] => by simp [putM]
  | p :: L => by
    have := putM_len w L
    simp only [putM]
    split <;> simp <;> omega
theorem mapOf_len (l : List W3) : (mapOf l).length ≤ l.length := by
  refine rev_ind (P := fun l => (mapOf l).length ≤ l.length) (by simp [mapOf]) (fun l w ih => ?_) l
  rw [mapOf_snoc, List.length_append]
  have := putM_len (fixW w) (mapOf l)
  simp only [List.length_cons, List.length_nil]
  omega
theorem Handed.len {es : Array MapEntry} {seen : Array Nat} {done : List MapEntry} {d : List W3} (h : Handed es seen done d) : d.length ≤ es.size := by
  have h1 : done.length = d.length := entsS_len h.ents
  have h2 : done.Nodup := List.Pairwise.imp (fun hne e => hne (by rw [e])) (List.pairwise_map.1 h.nd)
  rw [← h1, ← Array.length_toList]
  exact h2.length_le_of_subset (fun e he => h.sub e he)
theorem Handed.all {es : Array MapEntry} {seen : Array Nat} {done : List MapEntry} {d L : List W3} {cl : Nat} (h : Handed es seen done d) (hL : entsS L es.toList) (hst : Go.MapKept.Stamped es cl) (hall : (leftOf es seen).size = 0) : KeysND d ∧ ∀ x, x ∈ d ↔ x ∈ L := by
  have inj : ∀ a ∈ es.toList, ∀ b ∈ es.toList, a.born = b.born → a = b := by
    have := hst.2.1
    intro a ha b hb e
    obtain ⟨i, hi, rfl⟩ := List.getElem_of_mem ha
    obtain ⟨j, hj, rfl⟩ := List.getElem_of_mem hb
    have := List.pairwise_iff_getElem.1 this
    rcases Nat.lt_trichotomy i j with h1 | h1 | h1
    · exact absurd (by rw [List.getElem_map, List.getElem_map]; exact e) (this i j (by simpa using hi) (by simpa using hj) h1)
    · subst h1; rfl
    · exact absurd (by rw [List.getElem_map, List.getElem_map]; exact e.symm) (this j i (by simpa using hj) (by simpa using hi) h1)
  have injk : ∀ a ∈ es.toList, ∀ b ∈ es.toList, a.key = b.key → a = b := by
    have := hst.2.2
    intro a ha b hb e
    obtain ⟨i, hi, rfl⟩ := List.getElem_of_mem ha
    obtain ⟨j, hj, rfl⟩ := List.getElem_of_mem hb
    have := List.pairwise_iff_getElem.1 this
    rcases Nat.lt_trichotomy i j with h1 | h1 | h1
    · exact absurd (by rw [List.getElem_map, List.getElem_map]; exact e) (this i j (by simpa using hi) (by simpa using hj) h1)
    · subst h1; rfl
    · exact absurd (by rw [List.getElem_map, List.getElem_map]; exact e.symm) (this j i (by simpa using hj) (by simpa using hi) h1)
  have hmem : ∀ e ∈ es.toList, e ∈ done := fun e he => by
    have h1 := all_seen es seen hall e he
    have h2 : e.born ∈ seen.toList := by rw [Array.contains_iff_mem] at h1; exact Array.mem_toList_iff.2 h1
    rw [h.seen] at h2
    obtain ⟨e', he', hb⟩ := List.mem_map.1 h2
    rw [← inj e' (h.sub e' he') e he hb]
    exact he'
  have hkn : (done.map (·.key)).Nodup := by
    have := h.nd
    rw [List.Nodup, List.pairwise_map] at this ⊢
    refine List.Pairwise.imp_of_mem (fun {a b} ha hb hne e => ?_) this
    exact hne (by rw [injk a (h.sub a ha) b (h.sub b hb) e])
  have tr : ∀ (l : List MapEntry) (q : List W3), entsS q l → ∀ x, x ∈ q ↔ ∃ e ∈ l, e.key = .string x.1 ∧ e.val = wV x := by
    intro l q hq x
    constructor
    · intro hx
      have : (Value.string x.1, wV x) ∈ l.map (fun e => (e.key, e.val)) := by rw [hq]; exact List.mem_map_of_mem hx
      obtain ⟨e, he, hee⟩ := List.mem_map.1 this
      simp only [Prod.mk.injEq] at hee
      exact ⟨e, he, hee⟩
    · rintro ⟨e, he, hk, hv⟩
      have : (e.key, e.val) ∈ q.map (fun p => (Value.string p.1, wV p)) := by rw [← hq]; exact List.mem_map_of_mem (f := fun e => (e.key, e.val)) he
      obtain ⟨y, hy, hye⟩ := List.mem_map.1 this
      simp only [Prod.mk.injEq] at hye
      have : y = x := by
        have h2 := hye.2.trans hv
        simp only [wV, wC, Value.agg.injEq] at h2
        have h3 := congrArg Array.toList h2
        simp only [List.toList_toArray, List.cons.injEq, Value.string.injEq, Value.bool.injEq, and_true] at h3
        obtain ⟨a1, a2, a3⟩ := h3
        exact Prod.ext a1 (Prod.ext a2 a3)
      rw [← this]
      exact hy
  refine ⟨entsS_nd h.ents hkn, fun x => ?_⟩
  rw [tr done d h.ents x, tr es.toList L hL x]
  exact ⟨fun ⟨e, he, h1⟩ => ⟨e, h.sub e he, h1⟩, fun ⟨e, he, h1⟩ => ⟨e, hmem e he, h1⟩⟩
set_option maxRecDepth 50000 in
set_option maxHeartbeats 8000000 in
theorem of_calls (ls : List W3) (A : Option Addr) (n c : Nat) (w : World) (hr : Row w A 3 (ls.map wC)) (hn : ls.length = n) (hl : n ≤ 1000000) :
    Calls Try.prog 11 #[.slice A n c] w fun e w' => ∃ p, e = .returned (.pointer (some ⟨p, 0, none⟩)) ∧ w.heap.size ≤ p ∧ TabAt w.heap.size w' p (tabOf ls) ∧ Ext w w' := by
  have Hr := Lib.hid hr
  have Hn := Lib.hid hn
  clear hr hn
  have hmm := @run_makeMap Try.prog
  go_enter Try.func11, Try.ntmps11
  go_upto_region 3 with (fail)
  clear hmm
  obtain ⟨w1, hw1⟩ : ∃ w1, w1 = w.alloc (.map #[] 0) := ⟨_, rfl⟩
  rw [← hw1]
  have hx1 : Ext w w1 := by rw [hw1]; exact (Ext.refl _).alloc _
  have hm1 : MapS w1 w.heap.size [] := by rw [hw1]; exact MapS.new w
  obtain ⟨b, hb⟩ : ∃ b, b = w.heap.size := ⟨_, rfl⟩
  rw [← hb] at hm1 ⊢
  have hb0 : w.heap.size ≤ b := by rw [hb]; exact Nat.le_refl _
  have HM1 := Lib.hid hm1
  clear hw1 hm1 hb
  go_loopw [12] (fun i wr => ∃ (k : Nat), k ≤ n ∧ i = .int .i64 k ∧ Hid (MapS wr b (mapOf (ls.take k))) ∧ Ext w wr) (fun i _ => n - (intOf i).toNat)
  case atStart => exact ⟨0, Nat.zero_le _, rfl, HM1, hx1⟩
  case round =>
    clear HM1
    obtain ⟨k, hk, rfl, HM, hx⟩ := hrel
    by_cases hlt : k < n
    · have hkl : k < ls.length := by rw [Hn.out]; exact hlt
      obtain ⟨ad, rfl, hlc0⟩ := Hr.out.get (i := k) (by simpa using hkl)
      rw [List.getElem_map] at hlc0
      have htk : mapOf (ls.take (k + 1)) = putM (fixW ls[k]) (mapOf (ls.take k)) := by rw [List.take_succ_eq_append_getElem hkl, mapOf_snoc]
      obtain ⟨x, hxe⟩ : ∃ x, x = ls[k] := ⟨_, rfl⟩
      rw [← hxe] at hlc0 htk
      have hlc : ∀ (j : Nat) (v : Value), (wC x)[j]? = some v → wr.cell? ((ad.add (k * 3)).add j) = some v := fun j v hj => hx.cell (hlc0 j v hj)
      have HTK := Lib.hid htk
      clear hxe hlc0 htk hkl
      have hp0 : (0 : Int) ≤ (k : Int) := by omega
      have hp1 : (k : Int) < (n : Int) := by omega
      go_upto_region 5 with (first
        | (refine wpList_load_row_ rfl 46 (.tmp 14) rfl (ad.add (k * 3)) rfl (wC x) _ hlc Try.underlying46 rfl (by rw [w_info]; rfl) ?_)
        | (refine wpList_store_blk rfl 46 (.tmp 5) (.tmp 15) rfl rfl wr.heap.size (wC x).toArray rfl rfl _ _ (Blk.new wr _ _) rfl (by kernel_rfl) (wC_one x) ?_; intro w3 hb3 hg3; have hx3 : Ext wr w3 := ((Ext.refl _).alloc _).grown_ hg3 (by simp)))
      obtain ⟨g5, hg5⟩ : ∃ g5, g5 = wr.heap.size := ⟨_, rfl⟩
      have hg5b : g5 ≠ b := fun e => by have := HM.out.lt; omega
      have hg50 : wr.heap.size ≤ g5 := by rw [hg5]; exact Nat.le_refl _
      rw [← hg5] at hb3 ⊢
      have HB3 := Lib.hid hb3
      have HM3 := Lib.hid (HM.out.ext hx3)
      clear hlc hg3 hb3 hg5
      obtain ⟨x0, x1, x2⟩ := x
      cases x2
      · have c0 : w3.cell? ⟨g5, 0, none⟩ = some (.string x0) := by rw [HB3.out.cell]; rfl
        have c2 : w3.cell? ⟨g5, 2, none⟩ = some (.bool false) := by rw [HB3.out.cell]; rfl
        obtain ⟨w5, hrun, hm5, hgm5⟩ := run_mapUpdate_str 64 9 46 Try.underlying64 Try.underlying9 HM3.out (x0, x1, false)
        have hrun' : (Instr.mapUpdate 64 (.map (some b)) (.string x0) (.agg #[.string x0, .string x1, .bool false])).run Try.prog w3 = .ok () w5 := hrun
        have HTK' : mapOf (ls.take (k + 1)) = putM (x0, x1, false) (mapOf (ls.take k)) := HTK.out
        rw [← HTK'] at hm5
        have HM5 := Lib.hid hm5
        have hxw5 : Ext w w5 := (hx.trans hx3).grown_ hgm5 (fun j e => by cases e; exact hb0)
        clear hm5 hgm5 hrun HTK'
        go_wp2_with (first
          | (refine wpList_load_row_ rfl 46 (.tmp 5) rfl ⟨g5, 0, none⟩ rfl [.string x0, .string x1, .bool false] _ (blk_cells HB3.out) Try.underlying46 rfl (by rw [w_info]; rfl) ?_))
        go_roundw
        case rel => exact ⟨k + 1, by omega, by go_num, HM5, hxw5⟩
        case measure => simp [intOf]; omega
      · have c1 : w3.cell? ⟨g5, 1, none⟩ = some (.string x1) := by rw [HB3.out.cell]; rfl
        have c2 : w3.cell? ⟨g5, 2, none⟩ = some (.bool true) := by rw [HB3.out.cell]; rfl
        have f1 := HB3.out.frozen 1
        go_upto_region 7 with (fail)
        obtain ⟨w4, hw4⟩ : ∃ w4, w4 = w3.setCell ⟨g5, 1, none⟩ (.string { data := #[] }) := ⟨_, rfl⟩
        rw [← hw4]
        have hg4 : w3.grownBy w4 (some g5) := by rw [hw4]; exact grown_set w3 g5 1 _
        have hb4 : Blk w4 g5 46 [.string x0, .string ByteArray.empty, .bool true].toArray := by rw [hw4]; exact HB3.out.set 1 _
        have hx4 : Ext w w4 := (hx.trans hx3).grown_ hg4 (fun j e => by cases e; exact Nat.le_trans hx.size hg50)
        have HB4 := Lib.hid hb4
        have HM4 := Lib.hid (HM3.out.grown hg4 (fun e => hg5b (Option.some.inj e).symm))
        clear hw4 hb4 c1 c2 f1
        have c0 : w4.cell? ⟨g5, 0, none⟩ = some (.string x0) := by rw [HB4.out.cell]; rfl
        obtain ⟨w5, hrun, hm5, hgm5⟩ := run_mapUpdate_str 64 9 46 Try.underlying64 Try.underlying9 HM4.out (x0, ByteArray.empty, true)
        have hrun' : (Instr.mapUpdate 64 (.map (some b)) (.string x0) (.agg #[.string x0, .string ByteArray.empty, .bool true])).run Try.prog w4 = .ok () w5 := hrun
        have HTK' : mapOf (ls.take (k + 1)) = putM (x0, ByteArray.empty, true) (mapOf (ls.take k)) := HTK.out
        rw [← HTK'] at hm5
        have HM5 := Lib.hid hm5
        have hxw5 : Ext w w5 := hx4.grown_ hgm5 (fun j e => by cases e; exact hb0)
        clear hm5 hgm5 hrun HTK' hg4
        go_wp2_with (first
          | (refine wpList_load_row_ rfl 46 (.tmp 5) rfl ⟨g5, 0, none⟩ rfl [.string x0, .string ByteArray.empty, .bool true] _ (blk_cells HB4.out) Try.underlying46 rfl (by rw [w_info]; rfl) ?_))
        go_roundw
        case rel => exact ⟨k + 1, by omega, by go_num, HM5, hxw5⟩
        case measure => simp [intOf]; omega
    · obtain rfl : n = k := by omega
      have hM := HM.out
      rw [← Hn.out, List.take_length] at hM
      have HML := Lib.hid hM
      clear HM hM
      obtain ⟨es, cl, hes, hL, hst⟩ := HML.out
      have HEL := Lib.hid hL
      have HST := Lib.hid hst
      have hbl := (Array.getElem?_eq_some_iff.1 hes).1
      have hes9 : (wr.alloc (.cells #[.slice none 0 0] 66)).heap[b]? = some (.map es cl) := (heap_alloc_old wr _ hbl).trans hes
      have hrange := run_range_map (P := Try.prog) (wr.alloc (.cells #[.slice none 0 0] 66)) 64 9 46 b es cl Try.underlying64 hes9
      go_upto_region 11 with (fail)
      clear hrange
      obtain ⟨w9, hw9⟩ : ∃ w9, w9 = wr.alloc (.cells #[.slice none 0 0] 66) := ⟨_, rfl⟩
      rw [← hw9] at hes9 ⊢
      have hx9 : Ext w w9 := by rw [hw9]; exact hx.alloc _
      have hp9 : Blk w9 wr.heap.size 66 #[.slice none 0 0] := by rw [hw9]; exact Blk.new wr _ _
      have hs9 : w9.heap.size = wr.heap.size + 1 := by rw [hw9]; simp
      obtain ⟨p, hp⟩ : ∃ p, p = wr.heap.size := ⟨_, rfl⟩
      obtain ⟨r, hr⟩ : ∃ r, r = w9.heap.size := ⟨_, rfl⟩
      have hp0 : w.heap.size ≤ p := by rw [hp]; exact hx.size
      have hbp : b < p := by omega
      obtain ⟨w10, hw10⟩ : ∃ w10, w10 = w9.alloc (.mapIter (some b) cl #[] cl) := ⟨_, rfl⟩
      try rw [hs9] at hr
      have hr' : r = w9.heap.size := by omega
      have hx10 : Ext w9 w10 := by rw [hw10]; exact (Ext.refl _).alloc _
      have hit : w10.heap[r]? = some (.mapIter (some b) cl #[] cl) := by rw [hw10, hr']; exact heap_alloc_new w9 _
      have hmp : w10.heap[b]? = some (.map es cl) := (hx10.block b (by omega)).trans hes9
      have hs10 : w10.heap.size = r + 1 := by rw [hw10, hr']; simp
      rw [← hw10]
      rw [← hp, show p + 1 = r by omega]
      rw [← hp] at hp9
      have hOW : OW w w10.heap.size (IterAt r b cl es #[]) p 66 #[.slice none ([] : List W3).length 0] [⟨46, 3, ([] : List W3).length, (([] : List W3).map wC).flatten, .slice none ([] : List W3).length 0⟩] w10 :=
        ⟨hx9.trans hx10, ⟨hit, hmp⟩, hp9.ext hx10, fun i q hq => by
          match i, hq with
          | 0, hq => cases hq; exact World.ownsRow_nil w10 _ _ 3
          | i + 1, hq => simp at hq, fun i j q t hij hi hj => by
          match i, j, hi, hj with
          | 0, 0, _, _ => exact absurd rfl hij
          | 0, j + 1, _, hj => simp at hj
          | i + 1, _, hi, _ => simp at hi, Nat.le_refl _⟩
      have HOW := Lib.hid hOW
      obtain ⟨B, hBe⟩ : ∃ B, B = w10.heap.size := ⟨_, rfl⟩
      rw [← hBe] at HOW
      have hrB : r < B := by omega
      have hbB : b < B := by omega
      have hpB : p < B := by omega
      have hwB : w.heap.size ≤ B := by omega
      have hrp : r ≠ p := by omega
      have hbr : b ≠ r := by omega
      have hwr0 : w.heap.size ≤ r := by omega
      clear hw9 hw10 hOW hes9 hes hit hmp hp9 hs9 hs10 hbl hst hL hx10 hx9 hr hr' hp hBe
      go_loopw [8] (fun v wr' => ∃ (seen : Array Nat) (done : List MapEntry) (d : List W3) (A1 : Option Addr) (c1 m : Nat), d.length = m ∧ Hid (Handed es seen done d) ∧ Hid (OW w B (IterAt r b cl es seen) p 66 #[.slice A1 m c1] [⟨46, 3, m, (d.map wC).flatten, .slice A1 m c1⟩] wr')) (fun _ wr' => (leftOf es (wr'.iterSeen r)).size)
      case atStart => exact ⟨#[], [], [], none, 0, 0, rfl, Lib.hid (Handed.start es), HOW⟩
      case round =>
        clear HOW
        obtain ⟨seen, done, d, A1, c1, m, hm, HD, HX⟩ := hrel
        have hmE : m ≤ es.size := by rw [← hm]; exact HD.out.len
        have hmN : m ≤ 1000000 := by
          have h1 := entsS_len HEL.out
          have h2 := mapOf_len ls
          rw [Array.length_toList] at h1
          rw [Hn.out] at h2
          omega
        rcases run_next_at (P := Try.prog) wr 0 r b cl cl seen es cl HX.out.rd.1 HX.out.rd.2 HST.out.1 (Nat.le_refl _) with ⟨h0, hrun⟩ | ⟨e, he, w1', hal, hrun⟩
        · obtain ⟨hkd, hmem⟩ := HD.out.all HEL.out HST.out h0
          have hown := HX.out.own 0 _ rfl
          have hsort := sortW_calls B wr A1 m c1 d hown hm hkd (by omega)
          have hcp : wr.cell? ⟨p, 0, none⟩ = some (.slice A1 m c1) := by rw [HX.out.nod.cell]; rfl
          have HMEM := Lib.hid hmem
          have HSORT := Lib.hid hsort
          have hown0 : ∀ k, (Value.slice A1 m c1).ownBlock = some k → B ≤ k := fun k hk => (own_lt hown hk).1
          have HOWN0 := Lib.hid hown0
          clear hmem hsort hown hown0 h0 hkd
          go_wp2_with (first
            | (go_at_call 29; (with_reducible refine HSORT.out.mono ?_); rintro e w12 ⟨rfl, d', hs', hm', hl', ho', hg'⟩))
          go_ret
          have hd' : d' = tabOf ls := sorted_is_tab ls d' hs' (fun x => (hm' x).trans (HMEM.out x))
          subst hd'
          have hx12 : Ext w w12 := HX.out.ext.grown_ hg' (fun k hk => Nat.le_trans hwB (HOWN0.out k hk))
          refine ⟨p, rfl, hp0, ⟨A1, c1, ?_, ?_⟩, hx12⟩
          · rw [hl']
            exact HX.out.nod.grown hg' (fun e => by have := HOWN0.out p e.symm; omega)
          · rw [hl']
            exact own_lower ho' hwB
        · obtain ⟨hee, hns⟩ := mem_left he
          have hshr := left_shrinks es seen e he
          obtain ⟨j, hj, hje⟩ := List.getElem_of_mem hee
          obtain ⟨x, _, hxk, hxv⟩ := entsS_at HEL.out (j := j) (e := e) (by rw [List.getElem?_eq_getElem hj, hje])
          have hD2 := HD.out.push hee hns hxk hxv
          have hgr : wr.grownBy (setBlock w1' r (.mapIter (some b) cl (seen.push e.born) cl)) (some r) := by
            rcases hal with rfl | rfl
            · exact grown_setBlock _ _ _
            · exact World.grownBy.trans (by exact ⟨rfl, rfl, rfl, Nat.le_refl _, fun _ _ _ => rfl⟩) (grown_setBlock _ _ _)
          have hsz1 : w1'.heap.size = wr.heap.size := by rcases hal with rfl | rfl <;> rfl
          have hrl : r < w1'.heap.size := by rw [hsz1]; exact (Array.getElem?_eq_some_iff.1 HX.out.rd.1).1
          obtain ⟨w11, hw11⟩ : ∃ w11, w11 = setBlock w1' r (.mapIter (some b) cl (seen.push e.born) cl) := ⟨_, rfl⟩
          have hit11 : w11.heap[r]? = some (.mapIter (some b) cl (seen.push e.born) cl) := by rw [hw11]; exact heap_setBlock hrl
          rw [← hw11] at hrun hgr
          have hmp11 : w11.heap[b]? = some (.map es cl) := (hgr.block b (Array.getElem?_eq_some_iff.1 HX.out.rd.2).1 (fun e2 => hbr (Option.some.inj e2))).trans HX.out.rd.2
          have hent := run_entry_at (P := Try.prog) w11 r b cl seen es cl e hit11 hmp11 hee HST.out.2.1
          have hX11 := HX.out.turn (RP' := IterAt r b cl es (seen.push e.born)) hgr ⟨hit11, hmp11⟩ (fun k hk => by cases hk; exact ⟨hwr0, hrB, hrp⟩)
          rw [hxk, hxv] at hrun hent
          obtain ⟨seen2, hseen2⟩ : ∃ seen2, seen2 = seen.push e.born := ⟨_, rfl⟩
          rw [← hseen2] at hX11 hD2 hshr
          have HX11 := Lib.hid hX11
          have HD2 := Lib.hid hD2
          have hseen1 : wr.iterSeen r = seen := by unfold World.iterSeen; rw [HX.out.rd.1]
          have HSEEN := Lib.hid hseen1
          clear hee hns hj hje hxk hxv hD2 hgr hsz1 hrl hw11 hit11 hmp11 hX11 hal he hseen1
          have hrun' : (Instr.next (.pointer (some ⟨r, 0, none⟩)) false 0).run Try.prog wr = .ok (.tuple #[.bool true, .string x.1, .agg (wC x).toArray]) w11 := hrun
          have hent' : (Instr.entry (.pointer (some ⟨r, 0, none⟩))).run Try.prog w11 = .ok (.tuple #[.string x.1, .agg (wC x).toArray]) w11 := hent
          clear hrun hent hseen2
          go_upto_region 13 with (first
            | (refine wpList_store_blk rfl 46 (.tmp 8) (.tmp 31) rfl rfl w11.heap.size (wC x).toArray rfl rfl _ _ (Blk.new w11 _ _) rfl (by kernel_rfl) (wC_one x) ?_; intro w12 hb12 hg12; have hx12 : Ext w11 w12 := ((Ext.refl _).alloc _).grown_ hg12 (by simp)))
          obtain ⟨g8, hg8⟩ : ∃ g8, g8 = w11.heap.size := ⟨_, rfl⟩
          rw [← hg8] at hb12 ⊢
          have HB8 := Lib.hid hb12
          have HX12 := Lib.hid (HX11.out.more (IterAt.stays hrB hbB) hx12)
          clear hb12 hg12 hg8 hrun' hent'
          refine wp_region_opsC (CInv [32, 33, 34, 35, 36, 37, 38, 39, 40, 41] _ [(0, 32, .pointer (some ⟨p, 0, none⟩)), (1, 33, .pointer (some ⟨p, 0, none⟩)), (2, 34, .pointer (some ⟨p, 0, none⟩)), (3, 35, .pointer (some ⟨p, 0, none⟩)), (4, 36, .slice A1 m c1), (5, 37, wV x), (8, 40, .pointer (some ⟨p, 0, none⟩)), (9, 41, .pointer (some ⟨p, 0, none⟩))] [(6, some 38), (7, some 39), (10, none)] (PutW (fun u => OW w B (IterAt r b cl es seen2) p 66 #[.slice A1 m c1] [⟨46, 3, m, (d.map wC).flatten, .slice A1 m c1⟩] u ∧ Blk u g8 46 (wC x).toArray) (wC x) (fun v => OW w B (IterAt r b cl es seen2) p 66 #[.slice A1 m c1] [⟨46, 3, m + 1, (d.map wC).flatten ++ (wC x), v⟩]) (fun v => OW w B (IterAt r b cl es seen2) p 66 #[v] [⟨46, 3, m + 1, (d.map wC).flatten ++ (wC x), v⟩]))) (by kernel_rfl) (by kernel_rfl) (CInv.start ⟨OW.more HX12.out (IterAt.stays hrB hbB) ((Ext.refl _).drew), HB8.out.ext (Ext.refl _).drew⟩) ?_ ?_
          · refine ⟨?o0, ?o1, ?o2, ?o3, ?o4, ?o5, ?o6, ?o7, ?o8, ?o9, ?o10, trivial⟩
            case o0 =>
              intro f a u h hfi hp hq hcl
              have q6 : a.tmps[6]?.getD undef = .pointer (some ⟨p, 0, none⟩) := h.agree.att (by decide)
              exact h.yield rfl rfl 32 rfl (by change 32 < 48; decide) rfl _ rfl (by go_simp)
            case o1 =>
              intro f a u h hfi hp hq hcl
              have q6 : a.tmps[6]?.getD undef = .pointer (some ⟨p, 0, none⟩) := h.agree.att (by decide)
              exact h.yield rfl rfl 33 rfl (by change 33 < 48; decide) rfl _ rfl (by go_simp)
            case o2 =>
              intro f a u h hfi hp hq hcl
              have q33 := h.att 1 rfl (pre_of hp 1 rfl)
              exact h.yield rfl rfl 34 rfl (by change 34 < 48; decide) rfl _ rfl (by go_simp)
            case o3 =>
              intro f a u h hfi hp hq hcl
              have q34 := h.att 2 rfl (pre_of hp 2 rfl)
              exact h.yield rfl rfl 35 rfl (by change 35 < 48; decide) rfl _ rfl (by go_simp)
            case o4 =>
              intro f a u h hfi hp hq hcl
              have q35 := h.att 3 rfl (pre_of hp 3 rfl)
              obtain ⟨xs, hx, hl⟩ := h.before 1 rfl (hq 7 _ rfl rfl)
              have hN := PutW.ahead (N := fun u => Blk u p 66 #[.slice A1 m c1]) hx (by omega) (fun _ h => h.1.nod) (fun _ _ h => h.nod)
              have c1 : u.cell? ⟨p, 0, none⟩ = some (.slice A1 m c1) := hN.cell 0
              clear hN hx
              exact h.yield rfl rfl 36 rfl (by change 36 < 48; decide) rfl _ rfl (by go_simp)
            case o5 =>
              intro f a u h hfi hp hq hcl
              have q8 : a.tmps[8]?.getD undef = .pointer (some ⟨g8, 0, none⟩) := h.agree.att (by decide)
              obtain ⟨xs, hx, hl⟩ := h.before 0 rfl (hq 6 _ rfl rfl)
              obtain rfl : xs = [] := List.eq_nil_of_length_eq_zero (by omega)
              have hE : (OW w B (IterAt r b cl es seen2) p 66 #[.slice A1 m c1] [⟨46, 3, m, (d.map wC).flatten, .slice A1 m c1⟩] u) ∧ Blk u g8 46 (wC x).toArray := hx
              exact h.yield rfl rfl 37 rfl (by change 37 < 48; decide) rfl _ rfl (run_of_sem rfl (by rw [show a.eval (.tmp 8) = .pointer (some ⟨g8, 0, none⟩) from h.agree.eval (by decide)]; exact run_loadAt_row u ⟨g8, 0, none⟩ 46 (wC x) _ (blk_cells hE.2) Try.underlying46 rfl (by rw [w_info]; rfl)))
            case o6 =>
              intro f a u h hfi hp hq hcl
              refine h.link hfi rfl rfl 0 _ rfl rfl (fun t ht => by cases ht; change 38 < 48; decide) rfl (fun k c d' hk hc => by omega) ?_
              intro xs hl hX hv
              obtain rfl : xs = [] := List.eq_nil_of_length_eq_zero hl
              obtain ⟨hX, hE⟩ : (OW w B (IterAt r b cl es seen2) p 66 #[.slice A1 m c1] [⟨46, 3, m, (d.map wC).flatten, .slice A1 m c1⟩] u) ∧ Blk u g8 46 (wC x).toArray := hX
              have e37 := h.at_ 5 rfl (pre_of hp 5 rfl)
              refine wp_val (exec_buildSlice rfl (by rw [arr1]; simp only [show a.eval (.tmp 37) = _ from e37]; rfl)) (lit1_w _ _) ?_
              exact ⟨_, rfl, ⟨_, rfl, Cells.lit rfl (wC x) _ _⟩, ⟨hX.more (IterAt.stays hrB hbB) ((Ext.refl _).alloc _), hE.ext ((Ext.refl _).alloc _)⟩⟩
            case o7 =>
              intro f a u h hfi hp hq hcl
              refine h.link hfi rfl rfl 1 _ rfl rfl (fun t ht => by cases ht; change 39 < 48; decide) rfl (fun k c d' hk hc => by (have hk0 : k = 0 := (by omega)); subst hk0; cases hc; exact (pre_of hp 6 rfl)) ?_
              intro xs hl hX hv
              obtain ⟨l, rfl⟩ := len1 hl
              obtain ⟨⟨g, rfl, hc⟩, hX, _⟩ : (∃ g, l = _ ∧ _) ∧ (OW w B (IterAt r b cl es seen2) p 66 #[.slice A1 m c1] [⟨46, 3, m, (d.map wC).flatten, .slice A1 m c1⟩] u) ∧ _ := hX
              have el := hv 0 _ _ rfl (by decide)
              refine wp_append u (.tmp 36) (.tmp 38) 22 rfl B 46 (.agg #[.string ByteArray.empty, .string ByteArray.empty, .bool false]) 3 40 Try.underlying22 (by kernel_rfl) rfl (by decide) _ m _ (h.at_ 4 rfl (pre_of hp 4 rfl)) (hX.own 0 _ rfl) (some ⟨g, 0, none⟩) 1 1 (wC x) el rfl hc (wC_one x) (by simp only [maxLen]; omega) (by omega) hX.hB ?_
              intro v' u' ho hg hf
              exact ⟨_, rfl, hX.app (IterAt.stays hrB hbB) hpB hwB (i := 0) rfl ho hg hf⟩
            case o8 =>
              intro f a u h hfi hp hq hcl
              have q32 := h.att 0 rfl (pre_of hp 0 rfl)
              exact h.yield rfl rfl 40 rfl (by change 40 < 48; decide) rfl _ rfl (by go_simp)
            case o9 =>
              intro f a u h hfi hp hq hcl
              have q40 := h.att 6 rfl (pre_of hp 8 rfl)
              exact h.yield rfl rfl 41 rfl (by change 41 < 48; decide) rfl _ rfl (by go_simp)
            case o10 =>
              intro f a u h hfi hp hq hcl
              refine h.link hfi rfl rfl 2 _ rfl rfl (fun t ht => by cases ht) rfl (fun k c d' hk hc => by (have hk0 : k = 1 := (by omega)); subst hk0; cases hc; exact (pre_of hp 7 rfl)) ?_
              intro xs hl hX hv
              obtain ⟨l, v, rfl⟩ := len2 hl
              have hX : OW w B (IterAt r b cl es seen2) p 66 #[.slice A1 m c1] [⟨46, 3, m + 1, (d.map wC).flatten ++ (wC x), v⟩] u := hX
              have ev := hv 1 _ _ rfl (by decide)
              obtain ⟨Av, cv, hvv, _, _, _⟩ := own_form (hX.own 0 _ rfl) (by show 0 < 3; decide)
              have hvv : v = .slice Av (m + 1) cv := hvv
              subst hvv
              have c1 : u.cell? ⟨p, 0, none⟩ = some (.slice A1 m c1) := hX.nod.cell 0
              have f1 := hX.nod.frozen 0
              refine wp_store_cell 22 (.tmp 41) (.tmp 39) rfl rfl (h.at_ 7 rfl (pre_of hp 9 rfl)) ev (st_writes _ _ _ _ _ _ c1 f1) ?_
              exact ⟨.tuple #[], rfl, hX.sto (grown_set u p 0 _) (blk_set hX.nod 0 _) (hX.rd.other (grown_set u p 0 _) hrp (by omega)) hpB hp0⟩
          · intro f a u h hall hfar
            obtain ⟨xs, hxl, hX, hv⟩ := h.done (by intro c hc; simp only [List.mem_cons, List.not_mem_nil, or_false] at hc; rcases hc with rfl | rfl | rfl; all_goals exact hall _ (by decide))
            obtain ⟨l, v, t, rfl⟩ := len3 hxl
            have hX : OW w B (IterAt r b cl es seen2) p 66 #[v] [⟨46, 3, m + 1, (d.map wC).flatten ++ (wC x), v⟩] u := hX
            have hag := h.agree.out
            simp only [List.foldl_cons, List.foldl_nil, Act.put, List.setIfInBounds_toArray, List.set_cons_zero, List.set_cons_succ] at hag
            generalize a.eval (.tmp 32) = y32 at hag
            generalize a.eval (.tmp 33) = y33 at hag
            generalize a.eval (.tmp 34) = y34 at hag
            generalize a.eval (.tmp 35) = y35 at hag
            generalize a.eval (.tmp 36) = y36 at hag
            generalize a.eval (.tmp 37) = y37 at hag
            generalize a.eval (.tmp 38) = y38 at hag
            generalize a.eval (.tmp 39) = y39 at hag
            generalize a.eval (.tmp 40) = y40 at hag
            generalize a.eval (.tmp 41) = y41 at hag
            clear h hall hfar hxl hv
            subst hag
            obtain ⟨Av, cv, hvv, lv, mv, hcv⟩ := own_form (hX.own 0 _ rfl) (by show 0 < 3; decide)
            have hvv : v = .slice Av (m + 1) cv := hvv
            subst hvv
            clear lv mv hcv
            go_wp2
            go_roundw
            case rel =>
              rw [w_snoc] at hX
              exact ⟨seen2, done ++ [e], d ++ [x], Av, cv, m + 1, by rw [List.length_append, hm]; rfl, HD2, Lib.hid hX⟩
            case measure =>
              have hs2 : ∀ W, IterAt r b cl es seen2 W → W.iterSeen r = seen2 := fun W h => by unfold World.iterSeen; rw [h.1]
              rw [HSEEN.out, hs2 _ hX.rd]
              exact hshr
end Go.Proofs.Ytnggdkpaofbaaaa
