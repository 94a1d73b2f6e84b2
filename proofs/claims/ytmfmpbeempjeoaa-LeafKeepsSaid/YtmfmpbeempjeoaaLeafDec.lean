/- The walk of leaf.Decode. Printed by wip/mkleafdec.py. -/
import Derived.Test.YtmfmpbeempjeoaaLeafDecPure
import Derived.Test.YtmfmpbeempjeoaaLeafLaw
import Derived.Test.YtmfmpbeempjeoaaCodeRead
import Derived.Test.YtmfmpbeempjeoaaPush
namespace Go.Proofs.Ytmfmpbeempjeoaa
open Go.RowKit
set_option linter.unusedVariables false

theorem sv_snoc (xs : List ByteArray) (s : ByteArray) : sv xs ++ [.string s] = sv (xs ++ [s]) := by simp [sv]
theorem iv_snoc (xs : List Int) (n : Int) : iv xs ++ [.int .i64 n] = iv (xs ++ [n]) := by simp [iv]
theorem lit1_strs (w : World) (s : ByteArray) : (Instr.buildSlice 22 1 #[(0, .string s)]).run Try.prog w = .ok (.slice (some ⟨w.heap.size, 0, none⟩) 1 1) (w.alloc (.cells #[.string s] 9)) := by go_simp
theorem lit1_ints (w : World) (n : Int) : (Instr.buildSlice 23 1 #[(0, .int .i64 n)]).run Try.prog w = .ok (.slice (some ⟨w.heap.size, 0, none⟩) 1 1) (w.alloc (.cells #[.int .i64 n] 3)) := by go_simp
theorem store_strs (w : World) (p : Addr) (A : Option Addr) (n c : Nat) (old : Value) (h : w.cell? p = some old) (hf : w.frozen? p = false) : (Instr.storeAt 22 (.pointer (some p)) (.slice A n c)).run Try.prog w = .ok () (w.setCell p (.slice A n c)) := by go_simp
theorem store_ints (w : World) (p : Addr) (A : Option Addr) (n c : Nat) (old : Value) (h : w.cell? p = some old) (hf : w.frozen? p = false) : (Instr.storeAt 23 (.pointer (some p)) (.slice A n c)).run Try.prog w = .ok () (w.setCell p (.slice A n c)) := by go_simp
abbrev ndZ : Array Value := #[.bool false, .slice none 0 0, .slice none 0 0, .slice none 0 0]
theorem dec_stays {B gR g2 : Nat} {r : PR} (h1 : gR < B) (h2 : g2 < B) : Stays B (fun u => Rdr u gR r ∧ Blk u g2 25 #[.bool false, .slice none 0 0, .slice none 0 0, .slice none 0 0]) := by
  intro w w' row h hg hr
  exact ⟨h.1.grown hg (fun k hk => Nat.lt_of_lt_of_le h1 (hr k hk)), h.2.grown hg (fun e => by have := hr g2 e.symm; omega)⟩
theorem dec_after {gR gN g2 : Nat} {r : PR} {u : World} (h : Rdr u gR r ∧ Blk u g2 25 #[.bool false, .slice none 0 0, .slice none 0 0, .slice none 0 0]) (h1 : gR < gN) (h2 : g2 ≠ gN) (i : Nat) (v : Value) : Rdr (u.setCell ⟨gN, i, none⟩ v) gR r ∧ Blk (u.setCell ⟨gN, i, none⟩ v) g2 25 #[.bool false, .slice none 0 0, .slice none 0 0, .slice none 0 0] :=
  ⟨h.1.grown (grown_set u gN i v) (fun k hk => by cases hk; exact h1), h.2.far (p := ⟨gN, i, none⟩) h2 v⟩
abbrev rowS (n : Nat) (xs : List Value) (v : Value) : ORow := ⟨9, 1, n, xs, v⟩
abbrev rowI (n : Nat) (xs : List Value) (v : Value) : ORow := ⟨3, 1, n, xs, v⟩
theorem dec_start {w w1 w2 w3 : World} (l : Bool) {gR : Nat} {r1 r0 : PR} (hgR : (w.alloc (.cells #[.bool false, .slice none 0 0, .slice none 0 0, .slice none 0 0] 25)).heap.size ≤ gR) (hR1 : Rdr w1 gR r1) (hx1 : Ext (w.alloc (.cells #[.bool false, .slice none 0 0, .slice none 0 0, .slice none 0 0] 25)) w1) (hR2 : Rdr w2 gR r0) (ht2 : Turns w1 w2 gR) (hx23 : Ext w2 w3) (hN3 : Blk w3 w2.heap.size 25 #[.bool l, .slice none 0 0, .slice none 0 0, .slice none 0 0]) :
    OW w w3.heap.size (fun u => Rdr u gR r0 ∧ Blk u w.heap.size 25 #[.bool false, .slice none 0 0, .slice none 0 0, .slice none 0 0]) w2.heap.size 25 #[.bool l, .slice none 0 0, .slice none 0 0, .slice none 0 0] [⟨9, 1, 0, [], .slice none 0 0⟩, ⟨9, 1, 0, [], .slice none 0 0⟩, ⟨3, 1, 0, [], .slice none 0 0⟩] w3 ∧ w.heap.size < gR ∧ gR < w2.heap.size ∧ w2.heap.size < w3.heap.size := by
  have hg : w.heap.size < gR := by simp at hgR; omega
  have hR1' := hR1
  obtain ⟨A1, c1, hb1, _⟩ := hR1'
  have hgw := hb1.lt
  have hs2 := ht2.size
  have hn3 := hN3.lt
  have hb2 : Blk w3 w.heap.size 25 #[.bool false, .slice none 0 0, .slice none 0 0, .slice none 0 0] := (((Blk.new w _ _).ext hx1).grown ht2 (by intro e; cases e; omega)).ext hx23
  refine ⟨⟨((Turns.ext ht2 (((Ext.refl w).alloc _).trans hx1) (Nat.le_of_lt hg))).trans hx23, ⟨hR2.ext hx23, hb2⟩, hN3, ?_, ?_, Nat.le_refl _⟩, hg, by omega, hn3⟩
  · intro i r hi
    match i, hi with
    | 0, hi => cases hi; exact World.ownsRow_nil _ _ _ _
    | 1, hi => cases hi; exact World.ownsRow_nil _ _ _ _
    | 2, hi => cases hi; exact World.ownsRow_nil _ _ _ _
    | n + 3, hi => cases hi
  · intro i j r s _ hi _ k hk
    match i, hi with
    | 0, hi => cases hi; cases hk
    | 1, hi => cases hi; cases hk
    | 2, hi => cases hi; cases hk
    | n + 3, hi => cases hi

/-- What Decode answers: the node, or none. -/
def DecPost (d : Option Nd) (w : World) (e : Ending) (w' : World) : Prop :=
  ∃ (ka va da : Option Addr) (K V D kc vc dc : Nat), e = .returned (.tuple #[nda (d.getD ⟨false, [], [], []⟩).leaf ka K kc va V vc da D dc, .int .i64 (if d.isSome then 0 else 4)]) ∧ NdAt w' (d.getD ⟨false, [], [], []⟩) ka va da K V D kc vc dc ∧ Ext w w' ∧
    (∀ x, ka = some x → w.heap.size ≤ x.block) ∧ (∀ x, va = some x → w.heap.size ≤ x.block) ∧ (∀ x, da = some x → w.heap.size ≤ x.block)
theorem decPost_none {w w' : World} (hx : Ext w w') {d : Option Nd} (hd : d = none) : DecPost d w (.returned (.tuple #[nda false none 0 0 none 0 0 none 0 0, .int .i64 4])) w' := by
  subst hd
  exact ⟨none, none, none, 0, 0, 0, 0, 0, 0, rfl, ndAt_nil _ _, hx, fun x h => (by cases h), fun x h => (by cases h), fun x h => (by cases h)⟩
theorem rUF_rest (b : List UInt8) : ∀ i acc n q, rUF i acc b = some (n, q) → q.length ≤ b.length := by
  induction b with
  | nil => intro i acc n q h; simp [rUF] at h
  | cons c b ih =>
    intro i acc n q h
    simp only [rUF] at h
    split at h
    · cases h
    · split at h
      · cases h; simp
      · have := ih _ _ _ _ h
        simp only [List.length_cons]
        omega
theorem uint_rest (r : PR) : r.uint.2.b.length ≤ r.b.length := by
  unfold PR.uint
  split
  · rename_i n q hq
    exact rUF_rest _ _ _ _ _ hq
  · simp [PR.fail]
theorem take_rest (r : PR) (n : Int) : (r.take n).2.b.length ≤ r.b.length ∧ (r.take n).1.length ≤ r.b.length := by
  unfold PR.take
  split
  · simp [PR.fail]
  · simp only [List.length_drop, List.length_take]; omega
theorem text_rest (r : PR) (m : Int) : (r.text m).2.b.length ≤ r.b.length ∧ (r.text m).1.length ≤ r.b.length := by
  unfold PR.text
  split
  · simp [PR.fail]
  · have h1 := take_rest r.uint.2 r.uint.1
    have h2 := uint_rest r
    omega
theorem dpairs_sizes (l : Bool) (r : PR) (M : Nat) (hr : r.b.length ≤ M) (k : Nat) : (∀ s ∈ (dpairs l r k).ks, s.size ≤ M) ∧ (∀ s ∈ (dpairs l r k).vs, s.size ≤ M) ∧ (dpairs l r k).r.b.length ≤ M := by
  induction k with
  | zero => exact ⟨fun s h => (by cases h), fun s h => (by cases h), hr⟩
  | succ k ih =>
    obtain ⟨h1, h2, h3⟩ := ih
    have t1 := text_rest (dpairs l r k).r 48
    have t2 := text_rest ((dpairs l r k).r.text 48).2 160
    cases l with
    | true =>
      refine ⟨fun s hs => ?_, fun s hs => ?_, ?_⟩
      · have hs : s ∈ (dpairs true r k).ks ++ [bstr ((dpairs true r k).r.text 48).1] := hs
        rcases List.mem_append.1 hs with hs | hs
        · exact h1 s hs
        · rw [List.mem_singleton] at hs; subst hs; rw [bstr_size]; omega
      · have hs : s ∈ (dpairs true r k).vs ++ [bstr (((dpairs true r k).r.text 48).2.text 160).1] := hs
        rcases List.mem_append.1 hs with hs | hs
        · exact h2 s hs
        · rw [List.mem_singleton] at hs; subst hs; rw [bstr_size]; omega
      · show (((dpairs true r k).r.text 48).2.text 160).2.b.length ≤ M
        omega
    | false =>
      refine ⟨fun s hs => ?_, h2, ?_⟩
      · have hs : s ∈ (dpairs false r k).ks ++ [bstr ((dpairs false r k).r.text 48).1] := hs
        rcases List.mem_append.1 hs with hs | hs
        · exact h1 s hs
        · rw [List.mem_singleton] at hs; subst hs; rw [bstr_size]; omega
      · show ((dpairs false r k).r.text 48).2.b.length ≤ M
        omega
theorem own_addr {w : World} {B E sz n m c : Nat} {A : Option Addr} {xs : List Value} (h : w.ownsRow B E sz (.slice A m c) n xs) : ∀ x, A = some x → B ≤ x.block := by
  intro x hx
  subst hx
  exact (own_lt h rfl).1
/-- The node that the rows make. -/
theorem dec_fin (l : Bool) (nd : Nd) {w0 u : World} {B gN : Nat} {RP : World → Prop} {A1 A2 A3 : Option Addr} {K V D c1 c2 c3 : Nat}
    (hX : OW w0 B RP gN 25 #[.bool l, .slice A1 K c1, .slice A2 V c2, .slice A3 D c3] [⟨9, 1, K, sv nd.keys, .slice A1 K c1⟩, ⟨9, 1, V, sv nd.vals, .slice A2 V c2⟩, ⟨3, 1, D, iv nd.kids, .slice A3 D c3⟩] u)
    (hk : nd.keys.length = K) (hv : nd.vals.length = V) (hd : nd.kids.length = D) (bk : K ≤ 140737488351232) (bv' : V ≤ 140737488351232) (bd : D ≤ 140737488351232)
    (sk : ∀ s ∈ nd.keys, s.size ≤ 140737488351232) (sv' : ∀ s ∈ nd.vals, s.size ≤ 140737488351232) (sd : ∀ p ∈ nd.kids, -9223372036854775808 ≤ p ∧ p ≤ 9223372036854775807) :
    NdAt u nd A1 A2 A3 K V D c1 c2 c3 ∧ (∀ x, A1 = some x → B ≤ x.block) ∧ (∀ x, A2 = some x → B ≤ x.block) ∧ (∀ x, A3 = some x → B ≤ x.block) := by
  have o1 := hX.own 0 _ rfl
  have o2 := hX.own 1 _ rfl
  have o3 := hX.own 2 _ rfl
  obtain ⟨a1, d1, e1, l1, _, k1⟩ := own_form o1 (by show 0 < 1; decide)
  obtain ⟨a2, d2, e2, l2, _, k2⟩ := own_form o2 (by show 0 < 1; decide)
  obtain ⟨a3, d3, e3, l3, _, k3⟩ := own_form o3 (by show 0 < 1; decide)
  cases e1; cases e2; cases e3
  exact ⟨⟨hk, hv, hd, l1, l2, l3, k1, k2, k3, bk, bv', bd, sk, sv', sd⟩, own_addr o1, own_addr o2, own_addr o3⟩
theorem NdAt.grown {w w' : World} {n : Nd} {ka va da : Option Addr} {K V D kc vc dc : Nat} (h : NdAt w n ka va da K V D kc vc dc) {row : Option Nat} (hg : w.grownBy w' row) (h1 : ∀ x, ka = some x → some x.block ≠ row) (h2 : ∀ x, va = some x → some x.block ≠ row) (h3 : ∀ x, da = some x → some x.block ≠ row) : NdAt w' n ka va da K V D kc vc dc :=
  ⟨h.hk, h.hv, h.hd, h.lk, h.lv, h.ld, h.ck.grown hg h1, h.cv.grown hg h2, h.cd.grown hg h3, h.bk, h.bv_, h.bd_, h.sk, h.sv_, h.bd⟩
theorem decPost_some {w u w5 : World} {d : Option Nd} {nd : Nd} {l : Bool} {B g2 : Nat} {A1 A2 A3 : Option Addr} {K V D c1 c2 c3 : Nat} (hx : Ext w u) (hg : u.grownBy w5 (some g2)) (h2w : w.heap.size ≤ g2) (h2B : g2 < B) (h0B : w.heap.size ≤ B) (hl : nd.leaf = l) (hd : d = some nd)
    (hN : NdAt u nd A1 A2 A3 K V D c1 c2 c3) (hf1 : ∀ x, A1 = some x → B ≤ x.block) (hf2 : ∀ x, A2 = some x → B ≤ x.block) (hf3 : ∀ x, A3 = some x → B ≤ x.block) :
    DecPost d w (.returned (.tuple #[nda l A1 K c1 A2 V c2 A3 D c3, .int .i64 0])) w5 := by
  subst hd
  have hne : ∀ {A : Option Addr}, (∀ x, A = some x → B ≤ x.block) → ∀ x, A = some x → some x.block ≠ some g2 := fun h x hx e => by
    have := h x hx
    cases e
    omega
  exact ⟨A1, A2, A3, K, V, D, c1, c2, c3, by rw [← hl]; rfl, hN.grown hg (hne hf1) (hne hf2) (hne hf3), hx.grown_ hg (by intro k hk; cases hk; exact h2w),
    fun x h => Nat.le_trans h0B (hf1 x h), fun x h => Nat.le_trans h0B (hf2 x h), fun x h => Nat.le_trans h0B (hf3 x h)⟩
theorem dkids_sizes (r : PR) (k : Nat) : ∀ p ∈ (dkids r k).ds, -9223372036854775808 ≤ p ∧ p ≤ 9223372036854775807 := by
  induction k with
  | zero => intro p h; cases h
  | succ k ih =>
    intro p hp
    have hp : p ∈ (dkids r k).ds ++ [((min (dkids r k).r.uint.1 4096 : Nat) : Int)] := hp
    rcases List.mem_append.1 hp with hp | hp
    · exact ih p hp
    · rw [List.mem_singleton] at hp
      subst hp
      have := Nat.min_le_right (dkids r k).r.uint.1 4096
      omega
theorem min_le (n : Nat) : min n 4096 ≤ 4096 := Nat.min_le_right _ _
theorem exec_min {P : Program} {o : Oper} {a : Act} {w : World} {s n : Nat} {ts : Array TypeId} (ho : o.op = .call { callee := .builtin .min, args := #[.tmp s, .const (.int .u64 4096)], argTypes := ts }) (hs : a.eval (.tmp s) = .int .u64 (n : Int)) :
    (execOp a.eval o).run P w = .ok (.value (.int .u64 ((min n 4096 : Nat) : Int))) w := by
  have e : (if (4096 : Int) < (n : Int) then (4096 : Int) else (n : Int)) = ((min n 4096 : Nat) : Int) := by
    split <;> omega
  have hx : a.eval (.const (.int .u64 4096)) = .int .u64 4096 := rfl
  unfold execOp
  simp only [ho, resolve, invoke, builtin, Sem.run_bind, Sem.run_pure, Result.andThen_ok, List.map_toArray, List.map_cons, List.map_nil, hs, hx, run_min_int2, e]
theorem text_size (r : PR) (m : Int) (hr : r.b.length ≤ 140737488351232) : (bstr (r.text m).1).size ≤ 140737488351232 := by
  rw [bstr_size]
  unfold PR.text
  split
  · simp
  · unfold PR.take
    split
    · simp
    · rw [List.length_take]
      have := uint_rest r
      omega

set_option maxRecDepth 50000 in
set_option maxHeartbeats 4000000 in
theorem decode_leaf (A : Option Addr) (n c h cnt : Nat) (bs : List UInt8) (r0 : PR) (w : World) (hb : Cells w A (bv bs)) (hn : Hid (bs.length = n)) (hl : n ≤ 140737488351232)
    (Hu : Hid ((PR.mk bs false).uint = (h, r0))) (e1 : bits .and .u64 (h : Int) 1 = 1) (hb0 : r0.bad = false) (e2 : (h : Int) / 2 = cnt) (hcn : cnt ≤ 512) (hrl : r0.b.length ≤ 140737488351232) :
    Calls Try.prog 15 #[.slice A n c] w fun e w' => DecPost (decTail true cnt r0) w e w' := by
  go_enter Try.func15, Try.ntmps15
  go_wp2_with (first
    | (go_at_call 23; ((with_reducible refine (read_calls A n c bs _ (hb.ext ((Ext.refl _).alloc _)) hn.out hl).mono ?_); rintro e w1 ⟨gR, rfl, hgR, hR1, hx1⟩))
    | (go_at_call 24; ((with_reducible refine (ruint_calls gR _ _ hR1).mono ?_); rintro e w2 ⟨rfl, hR2, ht2⟩; rw [Hu.out]; rw [Hu.out] at hR2))
    | (refine wpList_store_blk rfl 25 (.tmp 6) (.tmp 16) rfl rfl w2.heap.size #[.bool true, .slice none 0 0, .slice none 0 0, .slice none 0 0] rfl rfl _ _ (Blk.new_at rfl _ _) rfl (by kernel_rfl) (by simp [Value.oneCell']) ?_; intro w3 hN3 hg3; have hx23 : Ext w2 w3 := ((Ext.refl _).alloc _).grown_ hg3 (by simp); have hR3 := hR2.ext hx23)
    | (go_at_call 25; (have hgd := rgood_calls gR _ w3 hR3; rw [hb0] at hgd; (with_reducible refine hgd.mono ?_); rintro e w' ⟨rfl, rfl⟩)))
  obtain ⟨hS, hl2R, hlRN', hlNB'⟩ := dec_start true hgR hR1 hx1 hR2 ht2 hx23 hN3
  obtain ⟨B, hB⟩ : ∃ B, B = w3.heap.size := ⟨_, rfl⟩
  obtain ⟨gN, hgN⟩ : ∃ g, g = w2.heap.size := ⟨_, rfl⟩
  obtain ⟨g2, hg2⟩ : ∃ g, g = w.heap.size := ⟨_, rfl⟩
  have hl0B : w.heap.size ≤ B := by omega
  have hl0N : w.heap.size ≤ gN := by omega
  have hlRN : gR < gN := by omega
  have hlNB : gN < B := by omega
  have hlRB : gR < B := by omega
  have hl2B : g2 < B := by omega
  have hl2g : g2 < gR := by omega
  have hl2w : w.heap.size ≤ g2 := by omega
  have hl0R : w.heap.size ≤ gR := by omega
  rw [← hB, ← hgN, ← hg2] at hS
  rw [← hgN, ← hg2]
  clear hB hgN hg2 hlRN' hlNB' hl2R hN3 hg3 hx23 hR3 hR2 hR1 ht2 hx1 hgR
  go_loopg [29] cnt (fun gk i wr => ∃ (j : Nat) (D : DSt) (A1 : Option Addr) (c1 : Nat) (A2 : Option Addr) (c2 : Nat), i = .int .i64 j ∧ j + gk = cnt ∧ Hid (D = dpairs true r0 j) ∧ OW w B (fun u => Rdr u gR D.r ∧ Blk u g2 25 #[.bool false, .slice none 0 0, .slice none 0 0, .slice none 0 0]) gN 25 #[.bool true, .slice A1 j c1, .slice A2 j c2, .slice none 0 0] [⟨9, 1, j, sv D.ks, .slice A1 j c1⟩, ⟨9, 1, j, sv D.vs, .slice A2 j c2⟩, ⟨3, 1, 0, [], .slice none 0 0⟩] wr)
  case atStart => exact ⟨0, dpairs true r0 0, none, 0, none, 0, rfl, by omega, Lib.hid rfl, hS⟩
  case round =>
    obtain ⟨j, D, A1, c1, A2, c2, rfl, hjk, hD, hX0⟩ := hrel
    by_cases hlt : j < cnt
    · obtain ⟨gk', rfl⟩ : ∃ k, gk = k + 1 := ⟨gk - 1, by omega⟩
      go_wp2
      refine wp_region_opsC (CInv [31, 32, 33, 34, 35, 36, 37] _ [(0, 31, .pointer (some ⟨gN, 1, none⟩)), (1, 32, .slice A1 j c1), (2, 33, .pointer (some ⟨gR, 0, none⟩)), (6, 37, .pointer (some ⟨gN, 1, none⟩))] [(3, some 34), (4, some 35), (5, some 36), (7, none)] (PushW (OW w B (fun u => Rdr u gR D.r ∧ Blk u g2 25 #[.bool false, .slice none 0 0, .slice none 0 0, .slice none 0 0]) gN 25 #[.bool true, .slice A1 j c1, .slice A2 j c2, .slice none 0 0] [⟨9, 1, j, sv D.ks, .slice A1 j c1⟩, ⟨9, 1, j, sv D.vs, .slice A2 j c2⟩, ⟨3, 1, 0, [], .slice none 0 0⟩]) (OW w B (fun u => Rdr u gR (D.r.text 48).2 ∧ Blk u g2 25 #[.bool false, .slice none 0 0, .slice none 0 0, .slice none 0 0]) gN 25 #[.bool true, .slice A1 j c1, .slice A2 j c2, .slice none 0 0] [⟨9, 1, j, sv D.ks, .slice A1 j c1⟩, ⟨9, 1, j, sv D.vs, .slice A2 j c2⟩, ⟨3, 1, 0, [], .slice none 0 0⟩]) ((Value.string (bstr (D.r.text 48).1))) [Value.string (bstr (D.r.text 48).1)] (fun v => OW w B (fun u => Rdr u gR (D.r.text 48).2 ∧ Blk u g2 25 #[.bool false, .slice none 0 0, .slice none 0 0, .slice none 0 0]) gN 25 #[.bool true, .slice A1 j c1, .slice A2 j c2, .slice none 0 0] [⟨9, 1, j + 1, sv D.ks ++ [Value.string (bstr (D.r.text 48).1)], v⟩, ⟨9, 1, j, sv D.vs, .slice A2 j c2⟩, ⟨3, 1, 0, [], .slice none 0 0⟩]) (fun v => OW w B (fun u => Rdr u gR (D.r.text 48).2 ∧ Blk u g2 25 #[.bool false, .slice none 0 0, .slice none 0 0, .slice none 0 0]) gN 25 #[.bool true, v, .slice A2 j c2, .slice none 0 0] [⟨9, 1, j + 1, sv D.ks ++ [Value.string (bstr (D.r.text 48).1)], v⟩, ⟨9, 1, j, sv D.vs, .slice A2 j c2⟩, ⟨3, 1, 0, [], .slice none 0 0⟩]))) (by kernel_rfl) (by kernel_rfl) (CInv.start (OW.more hX0 (dec_stays hlRB hl2B) ((Ext.refl _).drew))) ?_ ?_
      · refine ⟨?o0, ?o1, ?o2, ?o3, ?o4, ?o5, ?o6, ?o7, trivial⟩
        case o0 =>
          intro f a u h hfi hp hq hcl
          have q6 : a.tmps[6]?.getD undef = .pointer (some ⟨gN, 0, none⟩) := h.agree.att (by decide)
          exact h.yield rfl rfl 31 rfl (by change 31 < 77; decide) rfl _ rfl (by go_simp)
        case o1 =>
          intro f a u h hfi hp hq hcl
          have q31 := h.att 0 rfl (pre_of hp 0 rfl)
          obtain ⟨xs, hx, hl⟩ := h.before 2 rfl (hq 5 _ rfl rfl)
          have hN := PushW.ahead (N := fun u => Blk u gN 25 #[.bool true, .slice A1 j c1, .slice A2 j c2, .slice none 0 0]) hx (by omega) (fun _ h => h.nod) (fun _ h => h.nod) (fun _ _ h => h.nod)
          have c1 : u.cell? ⟨gN, 1, none⟩ = some (.slice A1 j c1) := hN.cell 1
          clear hN hx
          exact h.yield rfl rfl 32 rfl (by change 32 < 77; decide) rfl _ rfl (by go_simp)
        case o2 =>
          intro f a u h hfi hp hq hcl
          have q4 : a.tmps[4]?.getD undef = .pointer (some ⟨gR, 0, none⟩) := h.agree.att (by decide)
          exact h.yield rfl rfl 33 rfl (by change 33 < 77; decide) rfl _ rfl (by go_simp)
        case o3 =>
          intro f a u h hfi hp hq hcl
          refine h.link hfi rfl rfl 0 _ rfl rfl (fun t ht => by cases ht; change 34 < 77; decide) rfl (fun k c d' hk hc => by omega) ?_
          intro xs hl hX hv
          obtain rfl : xs = [] := List.eq_nil_of_length_eq_zero hl
          have hX : OW w B (fun u => Rdr u gR D.r ∧ Blk u g2 25 #[.bool false, .slice none 0 0, .slice none 0 0, .slice none 0 0]) gN 25 #[.bool true, .slice A1 j c1, .slice A2 j c2, .slice none 0 0] [⟨9, 1, j, sv D.ks, .slice A1 j c1⟩, ⟨9, 1, j, sv D.vs, .slice A2 j c2⟩, ⟨3, 1, 0, [], .slice none 0 0⟩] u := hX
          refine wp_call 26 #[.tmp 33, .const (.int .i64 48)] #[50, 3] _ rfl (by kernel_rfl) (by rw [arr2, h.at_ 2 rfl (pre_of hp 2 rfl), show a.eval (.const (.int .i64 48)) = .int .i64 48 from rfl]) (Calls.mono (rtext_calls gR D.r 48 _ hX.rd.1 (by omega)) ?_)
          rintro e u' ⟨rfl, hr1, ht1⟩
          exact ⟨_, rfl, _, rfl, rfl, hX.turn ht1 ⟨hr1, hX.rd.2.grown ht1 (by intro e; cases e; omega)⟩ (fun k hk => by cases hk; exact ⟨by omega, by omega, by omega⟩)⟩
        case o4 =>
          intro f a u h hfi hp hq hcl
          refine h.link hfi rfl rfl 1 _ rfl rfl (fun t ht => by cases ht; change 35 < 77; decide) rfl (fun k c d' hk hc => by (have hk0 : k = 0 := (by omega)); subst hk0; cases hc; exact (pre_of hp 3 rfl)) ?_
          intro xs hl hX hv
          obtain ⟨s, rfl⟩ := len1 hl
          obtain ⟨hs, hX⟩ : s = _ ∧ OW w B (fun u => Rdr u gR (D.r.text 48).2 ∧ Blk u g2 25 #[.bool false, .slice none 0 0, .slice none 0 0, .slice none 0 0]) gN 25 #[.bool true, .slice A1 j c1, .slice A2 j c2, .slice none 0 0] [⟨9, 1, j, sv D.ks, .slice A1 j c1⟩, ⟨9, 1, j, sv D.vs, .slice A2 j c2⟩, ⟨3, 1, 0, [], .slice none 0 0⟩] u := hX
          have e34 := (hv 0 _ _ rfl (by decide)).trans hs
          refine wp_val (exec_buildSlice rfl (by rw [arr1]; simp only [show a.eval (.tmp 34) = _ from e34]; rfl)) (lit1_strs _ _) ?_
          exact ⟨_, rfl, hs, ⟨_, rfl, Cells.lit rfl [Value.string (bstr (D.r.text 48).1)] _ _⟩, hX.more (dec_stays hlRB hl2B) ((Ext.refl _).alloc _)⟩
        case o5 =>
          intro f a u h hfi hp hq hcl
          refine h.link hfi rfl rfl 2 _ rfl rfl (fun t ht => by cases ht; change 36 < 77; decide) rfl (fun k c d' hk hc => by (have hk0 : k = 1 := (by omega)); subst hk0; cases hc; exact (pre_of hp 4 rfl)) ?_
          intro xs hl hX hv
          obtain ⟨s, l, rfl⟩ := len2 hl
          obtain ⟨hs, ⟨g, rfl, hc⟩, hX⟩ : s = _ ∧ (∃ g, l = _ ∧ _) ∧ OW w B (fun u => Rdr u gR (D.r.text 48).2 ∧ Blk u g2 25 #[.bool false, .slice none 0 0, .slice none 0 0, .slice none 0 0]) gN 25 #[.bool true, .slice A1 j c1, .slice A2 j c2, .slice none 0 0] [⟨9, 1, j, sv D.ks, .slice A1 j c1⟩, ⟨9, 1, j, sv D.vs, .slice A2 j c2⟩, ⟨3, 1, 0, [], .slice none 0 0⟩] u := hX
          have el := hv 1 _ _ rfl (by decide)
          refine wp_append u (.tmp 32) (.tmp 35) 22 rfl B 9 (.string ByteArray.empty) 1 16 Try.underlying22 (by kernel_rfl) rfl (by decide) _ j _ (h.at_ 1 rfl (pre_of hp 1 rfl)) (hX.own 0 _ rfl) (some ⟨g, 0, none⟩) 1 1 [Value.string (bstr (D.r.text 48).1)] el rfl hc (by intro u hu; simp only [List.mem_singleton] at hu; subst hu; rfl) (by simp only [maxLen]; omega) (by omega) hX.hB ?_
          intro v' u' ho hg hf
          exact ⟨_, rfl, hs, hX.app (dec_stays hlRB hl2B) hlNB hl0B (i := 0) rfl ho hg hf⟩
        case o6 =>
          intro f a u h hfi hp hq hcl
          have q6 : a.tmps[6]?.getD undef = .pointer (some ⟨gN, 0, none⟩) := h.agree.att (by decide)
          exact h.yield rfl rfl 37 rfl (by change 37 < 77; decide) rfl _ rfl (by go_simp)
        case o7 =>
          intro f a u h hfi hp hq hcl
          refine h.link hfi rfl rfl 3 _ rfl rfl (fun t ht => by cases ht) rfl (fun k c d' hk hc => by (have hk0 : k = 2 := (by omega)); subst hk0; cases hc; exact (pre_of hp 5 rfl)) ?_
          intro xs hl hX hv
          obtain ⟨s, l, v, rfl⟩ := len3 hl
          obtain ⟨hs, hX⟩ : s = _ ∧ OW w B (fun u => Rdr u gR (D.r.text 48).2 ∧ Blk u g2 25 #[.bool false, .slice none 0 0, .slice none 0 0, .slice none 0 0]) gN 25 #[.bool true, .slice A1 j c1, .slice A2 j c2, .slice none 0 0] [⟨9, 1, j + 1, sv D.ks ++ [Value.string (bstr (D.r.text 48).1)], v⟩, ⟨9, 1, j, sv D.vs, .slice A2 j c2⟩, ⟨3, 1, 0, [], .slice none 0 0⟩] u := hX
          have ev := hv 2 _ _ rfl (by decide)
          obtain ⟨Av, cv, hvv, _, _, _⟩ := own_form (hX.own 0 _ rfl) (by show 0 < 1; decide)
          have hvv : v = .slice Av (j + 1) cv := hvv
          subst hvv
          have c1 : u.cell? ⟨gN, 1, none⟩ = some (.slice A1 j c1) := hX.nod.cell 1
          have f1 := hX.nod.frozen 1
          refine wp_store_cell 22 (.tmp 37) (.tmp 36) rfl rfl (h.at_ 3 rfl (pre_of hp 6 rfl)) ev (store_strs _ _ _ _ _ _ c1 f1) ?_
          exact ⟨.tuple #[], rfl, hs, hX.sto (grown_set u gN 1 _) (blk_set hX.nod 1 _) (dec_after hX.rd hlRN (by omega) _ _) hlNB hl0N⟩
      · intro f a u h hall hfar
        obtain ⟨xs, hxl, hX, hv⟩ := h.done (by intro c hc; simp only [List.mem_cons, List.not_mem_nil, or_false] at hc; rcases hc with rfl | rfl | rfl | rfl; all_goals exact hall _ (by decide))
        obtain ⟨s, l, v, t, rfl⟩ := len4 hxl
        have hX : OW w B (fun u => Rdr u gR (D.r.text 48).2 ∧ Blk u g2 25 #[.bool false, .slice none 0 0, .slice none 0 0, .slice none 0 0]) gN 25 #[.bool true, v, .slice A2 j c2, .slice none 0 0] [⟨9, 1, j + 1, sv D.ks ++ [Value.string (bstr (D.r.text 48).1)], v⟩, ⟨9, 1, j, sv D.vs, .slice A2 j c2⟩, ⟨3, 1, 0, [], .slice none 0 0⟩] u := hX.2
        have hag := h.agree.out
        simp only [List.foldl_cons, List.foldl_nil, Act.put, List.setIfInBounds_toArray, List.set_cons_zero, List.set_cons_succ] at hag
        generalize a.eval (.tmp 31) = y31 at hag
        generalize a.eval (.tmp 32) = y32 at hag
        generalize a.eval (.tmp 33) = y33 at hag
        generalize a.eval (.tmp 34) = y34 at hag
        generalize a.eval (.tmp 35) = y35 at hag
        generalize a.eval (.tmp 36) = y36 at hag
        generalize a.eval (.tmp 37) = y37 at hag
        clear h hall hfar hxl hv
        subst hag
        obtain ⟨Av1, cv1, hvv, lv, mv, hcv⟩ := own_form (hX.own 0 _ rfl) (by show 0 < 1; decide)
        have hvv : v = .slice Av1 (j + 1) cv1 := hvv
        subst hvv
        clear lv mv hcv
        have c0 : u.cell? ⟨gN, 0, none⟩ = some (.bool true) := hX.nod.cell 0
        go_wp2
        refine wp_region_opsC (CInv [40, 41, 42, 43, 44, 45, 46] _ [(0, 40, .pointer (some ⟨gN, 2, none⟩)), (1, 41, .slice A2 j c2), (2, 42, .pointer (some ⟨gR, 0, none⟩)), (6, 46, .pointer (some ⟨gN, 2, none⟩))] [(3, some 43), (4, some 44), (5, some 45), (7, none)] (PushW (OW w B (fun u => Rdr u gR (D.r.text 48).2 ∧ Blk u g2 25 #[.bool false, .slice none 0 0, .slice none 0 0, .slice none 0 0]) gN 25 #[.bool true, .slice Av1 (j + 1) cv1, .slice A2 j c2, .slice none 0 0] [⟨9, 1, j + 1, sv D.ks ++ [Value.string (bstr (D.r.text 48).1)], .slice Av1 (j + 1) cv1⟩, ⟨9, 1, j, sv D.vs, .slice A2 j c2⟩, ⟨3, 1, 0, [], .slice none 0 0⟩]) (OW w B (fun u => Rdr u gR ((D.r.text 48).2.text 160).2 ∧ Blk u g2 25 #[.bool false, .slice none 0 0, .slice none 0 0, .slice none 0 0]) gN 25 #[.bool true, .slice Av1 (j + 1) cv1, .slice A2 j c2, .slice none 0 0] [⟨9, 1, j + 1, sv D.ks ++ [Value.string (bstr (D.r.text 48).1)], .slice Av1 (j + 1) cv1⟩, ⟨9, 1, j, sv D.vs, .slice A2 j c2⟩, ⟨3, 1, 0, [], .slice none 0 0⟩]) ((Value.string (bstr ((D.r.text 48).2.text 160).1))) [Value.string (bstr ((D.r.text 48).2.text 160).1)] (fun v => OW w B (fun u => Rdr u gR ((D.r.text 48).2.text 160).2 ∧ Blk u g2 25 #[.bool false, .slice none 0 0, .slice none 0 0, .slice none 0 0]) gN 25 #[.bool true, .slice Av1 (j + 1) cv1, .slice A2 j c2, .slice none 0 0] [⟨9, 1, j + 1, sv D.ks ++ [Value.string (bstr (D.r.text 48).1)], .slice Av1 (j + 1) cv1⟩, ⟨9, 1, j + 1, sv D.vs ++ [Value.string (bstr ((D.r.text 48).2.text 160).1)], v⟩, ⟨3, 1, 0, [], .slice none 0 0⟩]) (fun v => OW w B (fun u => Rdr u gR ((D.r.text 48).2.text 160).2 ∧ Blk u g2 25 #[.bool false, .slice none 0 0, .slice none 0 0, .slice none 0 0]) gN 25 #[.bool true, .slice Av1 (j + 1) cv1, v, .slice none 0 0] [⟨9, 1, j + 1, sv D.ks ++ [Value.string (bstr (D.r.text 48).1)], .slice Av1 (j + 1) cv1⟩, ⟨9, 1, j + 1, sv D.vs ++ [Value.string (bstr ((D.r.text 48).2.text 160).1)], v⟩, ⟨3, 1, 0, [], .slice none 0 0⟩]))) (by kernel_rfl) (by kernel_rfl) (CInv.start (OW.more hX (dec_stays hlRB hl2B) ((Ext.refl _).drew))) ?_ ?_
        · refine ⟨?o0, ?o1, ?o2, ?o3, ?o4, ?o5, ?o6, ?o7, trivial⟩
          case o0 =>
            intro f a u h hfi hp hq hcl
            have q6 : a.tmps[6]?.getD undef = .pointer (some ⟨gN, 0, none⟩) := h.agree.att (by decide)
            exact h.yield rfl rfl 40 rfl (by change 40 < 77; decide) rfl _ rfl (by go_simp)
          case o1 =>
            intro f a u h hfi hp hq hcl
            have q40 := h.att 0 rfl (pre_of hp 0 rfl)
            obtain ⟨xs, hx, hl⟩ := h.before 2 rfl (hq 5 _ rfl rfl)
            have hN := PushW.ahead (N := fun u => Blk u gN 25 #[.bool true, .slice Av1 (j + 1) cv1, .slice A2 j c2, .slice none 0 0]) hx (by omega) (fun _ h => h.nod) (fun _ h => h.nod) (fun _ _ h => h.nod)
            have c1 : u.cell? ⟨gN, 2, none⟩ = some (.slice A2 j c2) := hN.cell 2
            clear hN hx
            exact h.yield rfl rfl 41 rfl (by change 41 < 77; decide) rfl _ rfl (by go_simp)
          case o2 =>
            intro f a u h hfi hp hq hcl
            have q4 : a.tmps[4]?.getD undef = .pointer (some ⟨gR, 0, none⟩) := h.agree.att (by decide)
            exact h.yield rfl rfl 42 rfl (by change 42 < 77; decide) rfl _ rfl (by go_simp)
          case o3 =>
            intro f a u h hfi hp hq hcl
            refine h.link hfi rfl rfl 0 _ rfl rfl (fun t ht => by cases ht; change 43 < 77; decide) rfl (fun k c d' hk hc => by omega) ?_
            intro xs hl hX hv
            obtain rfl : xs = [] := List.eq_nil_of_length_eq_zero hl
            have hX : OW w B (fun u => Rdr u gR (D.r.text 48).2 ∧ Blk u g2 25 #[.bool false, .slice none 0 0, .slice none 0 0, .slice none 0 0]) gN 25 #[.bool true, .slice Av1 (j + 1) cv1, .slice A2 j c2, .slice none 0 0] [⟨9, 1, j + 1, sv D.ks ++ [Value.string (bstr (D.r.text 48).1)], .slice Av1 (j + 1) cv1⟩, ⟨9, 1, j, sv D.vs, .slice A2 j c2⟩, ⟨3, 1, 0, [], .slice none 0 0⟩] u := hX
            refine wp_call 26 #[.tmp 42, .const (.int .i64 160)] #[50, 3] _ rfl (by kernel_rfl) (by rw [arr2, h.at_ 2 rfl (pre_of hp 2 rfl), show a.eval (.const (.int .i64 160)) = .int .i64 160 from rfl]) (Calls.mono (rtext_calls gR (D.r.text 48).2 160 _ hX.rd.1 (by omega)) ?_)
            rintro e u' ⟨rfl, hr1, ht1⟩
            exact ⟨_, rfl, _, rfl, rfl, hX.turn ht1 ⟨hr1, hX.rd.2.grown ht1 (by intro e; cases e; omega)⟩ (fun k hk => by cases hk; exact ⟨by omega, by omega, by omega⟩)⟩
          case o4 =>
            intro f a u h hfi hp hq hcl
            refine h.link hfi rfl rfl 1 _ rfl rfl (fun t ht => by cases ht; change 44 < 77; decide) rfl (fun k c d' hk hc => by (have hk0 : k = 0 := (by omega)); subst hk0; cases hc; exact (pre_of hp 3 rfl)) ?_
            intro xs hl hX hv
            obtain ⟨s, rfl⟩ := len1 hl
            obtain ⟨hs, hX⟩ : s = _ ∧ OW w B (fun u => Rdr u gR ((D.r.text 48).2.text 160).2 ∧ Blk u g2 25 #[.bool false, .slice none 0 0, .slice none 0 0, .slice none 0 0]) gN 25 #[.bool true, .slice Av1 (j + 1) cv1, .slice A2 j c2, .slice none 0 0] [⟨9, 1, j + 1, sv D.ks ++ [Value.string (bstr (D.r.text 48).1)], .slice Av1 (j + 1) cv1⟩, ⟨9, 1, j, sv D.vs, .slice A2 j c2⟩, ⟨3, 1, 0, [], .slice none 0 0⟩] u := hX
            have e43 := (hv 0 _ _ rfl (by decide)).trans hs
            refine wp_val (exec_buildSlice rfl (by rw [arr1]; simp only [show a.eval (.tmp 43) = _ from e43]; rfl)) (lit1_strs _ _) ?_
            exact ⟨_, rfl, hs, ⟨_, rfl, Cells.lit rfl [Value.string (bstr ((D.r.text 48).2.text 160).1)] _ _⟩, hX.more (dec_stays hlRB hl2B) ((Ext.refl _).alloc _)⟩
          case o5 =>
            intro f a u h hfi hp hq hcl
            refine h.link hfi rfl rfl 2 _ rfl rfl (fun t ht => by cases ht; change 45 < 77; decide) rfl (fun k c d' hk hc => by (have hk0 : k = 1 := (by omega)); subst hk0; cases hc; exact (pre_of hp 4 rfl)) ?_
            intro xs hl hX hv
            obtain ⟨s, l, rfl⟩ := len2 hl
            obtain ⟨hs, ⟨g, rfl, hc⟩, hX⟩ : s = _ ∧ (∃ g, l = _ ∧ _) ∧ OW w B (fun u => Rdr u gR ((D.r.text 48).2.text 160).2 ∧ Blk u g2 25 #[.bool false, .slice none 0 0, .slice none 0 0, .slice none 0 0]) gN 25 #[.bool true, .slice Av1 (j + 1) cv1, .slice A2 j c2, .slice none 0 0] [⟨9, 1, j + 1, sv D.ks ++ [Value.string (bstr (D.r.text 48).1)], .slice Av1 (j + 1) cv1⟩, ⟨9, 1, j, sv D.vs, .slice A2 j c2⟩, ⟨3, 1, 0, [], .slice none 0 0⟩] u := hX
            have el := hv 1 _ _ rfl (by decide)
            refine wp_append u (.tmp 41) (.tmp 44) 22 rfl B 9 (.string ByteArray.empty) 1 16 Try.underlying22 (by kernel_rfl) rfl (by decide) _ j _ (h.at_ 1 rfl (pre_of hp 1 rfl)) (hX.own 1 _ rfl) (some ⟨g, 0, none⟩) 1 1 [Value.string (bstr ((D.r.text 48).2.text 160).1)] el rfl hc (by intro u hu; simp only [List.mem_singleton] at hu; subst hu; rfl) (by simp only [maxLen]; omega) (by omega) hX.hB ?_
            intro v' u' ho hg hf
            exact ⟨_, rfl, hs, hX.app (dec_stays hlRB hl2B) hlNB hl0B (i := 1) rfl ho hg hf⟩
          case o6 =>
            intro f a u h hfi hp hq hcl
            have q6 : a.tmps[6]?.getD undef = .pointer (some ⟨gN, 0, none⟩) := h.agree.att (by decide)
            exact h.yield rfl rfl 46 rfl (by change 46 < 77; decide) rfl _ rfl (by go_simp)
          case o7 =>
            intro f a u h hfi hp hq hcl
            refine h.link hfi rfl rfl 3 _ rfl rfl (fun t ht => by cases ht) rfl (fun k c d' hk hc => by (have hk0 : k = 2 := (by omega)); subst hk0; cases hc; exact (pre_of hp 5 rfl)) ?_
            intro xs hl hX hv
            obtain ⟨s, l, v, rfl⟩ := len3 hl
            obtain ⟨hs, hX⟩ : s = _ ∧ OW w B (fun u => Rdr u gR ((D.r.text 48).2.text 160).2 ∧ Blk u g2 25 #[.bool false, .slice none 0 0, .slice none 0 0, .slice none 0 0]) gN 25 #[.bool true, .slice Av1 (j + 1) cv1, .slice A2 j c2, .slice none 0 0] [⟨9, 1, j + 1, sv D.ks ++ [Value.string (bstr (D.r.text 48).1)], .slice Av1 (j + 1) cv1⟩, ⟨9, 1, j + 1, sv D.vs ++ [Value.string (bstr ((D.r.text 48).2.text 160).1)], v⟩, ⟨3, 1, 0, [], .slice none 0 0⟩] u := hX
            have ev := hv 2 _ _ rfl (by decide)
            obtain ⟨Av, cv, hvv, _, _, _⟩ := own_form (hX.own 1 _ rfl) (by show 0 < 1; decide)
            have hvv : v = .slice Av (j + 1) cv := hvv
            subst hvv
            have c1 : u.cell? ⟨gN, 2, none⟩ = some (.slice A2 j c2) := hX.nod.cell 2
            have f1 := hX.nod.frozen 2
            refine wp_store_cell 22 (.tmp 46) (.tmp 45) rfl rfl (h.at_ 3 rfl (pre_of hp 6 rfl)) ev (store_strs _ _ _ _ _ _ c1 f1) ?_
            exact ⟨.tuple #[], rfl, hs, hX.sto (grown_set u gN 2 _) (blk_set hX.nod 2 _) (dec_after hX.rd hlRN (by omega) _ _) hlNB hl0N⟩
        · intro f a u h hall hfar
          obtain ⟨xs, hxl, hX, hv⟩ := h.done (by intro c hc; simp only [List.mem_cons, List.not_mem_nil, or_false] at hc; rcases hc with rfl | rfl | rfl | rfl; all_goals exact hall _ (by decide))
          obtain ⟨s, l, v, t, rfl⟩ := len4 hxl
          have hX : OW w B (fun u => Rdr u gR ((D.r.text 48).2.text 160).2 ∧ Blk u g2 25 #[.bool false, .slice none 0 0, .slice none 0 0, .slice none 0 0]) gN 25 #[.bool true, .slice Av1 (j + 1) cv1, v, .slice none 0 0] [⟨9, 1, j + 1, sv D.ks ++ [Value.string (bstr (D.r.text 48).1)], .slice Av1 (j + 1) cv1⟩, ⟨9, 1, j + 1, sv D.vs ++ [Value.string (bstr ((D.r.text 48).2.text 160).1)], v⟩, ⟨3, 1, 0, [], .slice none 0 0⟩] u := hX.2
          have hag := h.agree.out
          simp only [List.foldl_cons, List.foldl_nil, Act.put, List.setIfInBounds_toArray, List.set_cons_zero, List.set_cons_succ] at hag
          generalize a.eval (.tmp 40) = y40 at hag
          generalize a.eval (.tmp 41) = y41 at hag
          generalize a.eval (.tmp 42) = y42 at hag
          generalize a.eval (.tmp 43) = y43 at hag
          generalize a.eval (.tmp 44) = y44 at hag
          generalize a.eval (.tmp 45) = y45 at hag
          generalize a.eval (.tmp 46) = y46 at hag
          clear h hall hfar hxl hv
          subst hag
          obtain ⟨Av2, cv2, hvv, lv, mv, hcv⟩ := own_form (hX.own 1 _ rfl) (by show 0 < 1; decide)
          have hvv : v = .slice Av2 (j + 1) cv2 := hvv
          subst hvv
          clear lv mv hcv
          go_wp2
          go_roundg gk'
          case measure => omega
          case rel =>
            rw [sv_snoc, sv_snoc] at hX
            exact ⟨j + 1, ⟨D.ks ++ [bstr (D.r.text 48).1], D.vs ++ [bstr ((D.r.text 48).2.text 160).1], ((D.r.text 48).2.text 160).2⟩, Av1, cv1, Av2, cv2, by go_num, by omega, Lib.hid (by rw [hD.out]; rfl), hX⟩
    · obtain rfl : j = cnt := by omega
      clear hlt hS
      have c0 : wr.cell? ⟨gN, 0, none⟩ = some (.bool true) := hX0.nod.cell 0
      go_wp2
      go_loopg [8] 0 (fun gk2 i2 wq => i2 = .int .i64 0 ∧ wq = wr)
      case atStart => exact ⟨rfl, rfl⟩
      case round =>
        obtain ⟨rfl, rfl⟩ := hrel
        have hp : (0 : Int) ≤ (j : Int) := by omega
        have hgd := rgood_calls gR _ wr hX0.rd.1
        have hks : D.ks.length = j := by rw [hD.out]; exact dpairs_ks _ _ _
        have hvs : D.vs.length = j := by rw [hD.out]; exact dpairs_vs _ _
        obtain ⟨hsk, hsv, _⟩ := dpairs_sizes true r0 140737488351232 hrl j
        rw [← hD.out] at hsk hsv
        obtain ⟨hNd, hf1, hf2, hf3⟩ := dec_fin true ⟨true, D.ks, D.vs, []⟩ hX0 hks hvs rfl (by omega) (by omega) (by omega) hsk hsv (by intro p hp; cases hp)
        have hT : decTail true j r0 = if D.r.bad || !(Nd.good ⟨true, D.ks, D.vs, []⟩) then none else some ⟨true, D.ks, D.vs, []⟩ := by
          unfold decTail
          simp only [if_true]
          rw [hD.out]
        obtain ⟨nd, hnd⟩ : ∃ nd : Nd, nd = ⟨true, D.ks, D.vs, []⟩ := ⟨_, rfl⟩
        have hndl : nd.leaf = true := by rw [hnd]
        rw [← hnd] at hNd hT
        have HT := Lib.hid hT
        have HNd := Lib.hid hNd
        have Hl := Lib.hid hndl
        have hN := hX0.nod
        have hres := hX0.rd.2
        have hxe := hX0.ext
        have HN := Lib.hid hN
        clear hks hvs hsk hsv hT hNd hnd hndl hX0 hN hD
        obtain ⟨c0, c1', c2', c3'⟩ := node_cells HN.out
        cases hbad : D.r.bad with
        | true =>
          rw [hbad] at hgd
          rw [hbad] at HT
          go_wp2_with (first
            | (go_at_call 25; ((with_reducible refine hgd.mono ?_); rintro e w' ⟨rfl, rfl⟩))
            | (refine wpList_store_blk rfl 25 (.tmp 2) (.tmp 75) rfl rfl g2 ndZ rfl rfl _ _ hres rfl (by kernel_rfl) (by simp [Value.oneCell']) ?_; intro w5 hb5 hg5))
          refine bodyPost_ret (results_row_tmp (P := Try.prog) (fn := Try.f15) rfl _ _ g2 25 ndZ _ rfl hb5 Try.underlying25 rfl (by kernel_rfl)) rfl ?_
          exact decPost_none (hxe.grown_ hg5 (by intro k hk; cases hk; exact hl2w)) (by rw [HT.out]; rfl)
        | false =>
          rw [hbad] at hgd
          rw [hbad] at HT
          cases hg : nd.good with
          | false =>
            rw [hg] at HT
            go_wp2_with (first
              | (go_at_call 25; ((with_reducible refine hgd.mono ?_); rintro e w' ⟨rfl, rfl⟩))
              | (go_at_call 12; ((with_reducible refine (good_calls_l nd true Hl.out _ _ _ _ _ _ _ _ _ _ HNd.out).mono ?_); rintro e w4 ⟨rfl, hx4⟩; rw [hg]; have hres4 := hres.ext hx4))
              | (refine wpList_store_blk rfl 25 (.tmp 2) (.tmp 75) rfl rfl g2 ndZ rfl rfl _ _ hres4 rfl (by kernel_rfl) (by simp [Value.oneCell']) ?_; intro w5 hb5 hg5))
            refine bodyPost_ret (results_row_tmp (P := Try.prog) (fn := Try.f15) rfl _ _ g2 25 ndZ _ rfl hb5 Try.underlying25 rfl (by kernel_rfl)) rfl ?_
            exact decPost_none ((hxe.trans hx4).grown_ hg5 (by intro k hk; cases hk; exact hl2w)) (by rw [HT.out]; rfl)
          | true =>
            rw [hg] at HT
            go_wp2_with (first
              | (go_at_call 25; ((with_reducible refine hgd.mono ?_); rintro e w' ⟨rfl, rfl⟩))
              | (go_at_call 12; ((with_reducible refine (good_calls_l nd true Hl.out _ _ _ _ _ _ _ _ _ _ HNd.out).mono ?_); rintro e w4 ⟨rfl, hx4⟩; rw [hg]; have hres4 := hres.ext hx4; clear c0 c1' c2' c3'; obtain ⟨c0, c1', c2', c3'⟩ := node_cells (HN.out.ext hx4)))
              | (refine wpList_store_blk rfl 25 (.tmp 2) (.tmp 76) rfl rfl g2 #[.bool true, .slice A1 j c1, .slice A2 j c2, .slice none 0 0] rfl rfl _ _ hres4 rfl (by kernel_rfl) (by simp [Value.oneCell']) ?_; intro w5 hb5 hg5))
            refine bodyPost_ret (results_row_tmp (P := Try.prog) (fn := Try.f15) rfl _ _ g2 25 #[.bool true, .slice A1 j c1, .slice A2 j c2, .slice none 0 0] _ rfl hb5 Try.underlying25 rfl (by kernel_rfl)) rfl ?_
            exact decPost_some (hxe.trans hx4) hg5 hl2w hl2B hl0B Hl.out (by rw [HT.out]; rfl) (HNd.out.ext hx4) hf1 hf2 hf3

set_option maxRecDepth 50000 in
set_option maxHeartbeats 4000000 in
theorem decode_inner (A : Option Addr) (n c h cnt : Nat) (bs : List UInt8) (r0 : PR) (w : World) (hb : Cells w A (bv bs)) (hn : Hid (bs.length = n)) (hl : n ≤ 140737488351232)
    (Hu : Hid ((PR.mk bs false).uint = (h, r0))) (e1 : bits .and .u64 (h : Int) 1 = 0) (hb0 : r0.bad = false) (e2 : (h : Int) / 2 = cnt) (hcn : cnt ≤ 512) (hrl : r0.b.length ≤ 140737488351232) :
    Calls Try.prog 15 #[.slice A n c] w fun e w' => DecPost (decTail false cnt r0) w e w' := by
  go_enter Try.func15, Try.ntmps15
  go_wp2_with (first
    | (go_at_call 23; ((with_reducible refine (read_calls A n c bs _ (hb.ext ((Ext.refl _).alloc _)) hn.out hl).mono ?_); rintro e w1 ⟨gR, rfl, hgR, hR1, hx1⟩))
    | (go_at_call 24; ((with_reducible refine (ruint_calls gR _ _ hR1).mono ?_); rintro e w2 ⟨rfl, hR2, ht2⟩; rw [Hu.out]; rw [Hu.out] at hR2))
    | (refine wpList_store_blk rfl 25 (.tmp 6) (.tmp 16) rfl rfl w2.heap.size #[.bool false, .slice none 0 0, .slice none 0 0, .slice none 0 0] rfl rfl _ _ (Blk.new_at rfl _ _) rfl (by kernel_rfl) (by simp [Value.oneCell']) ?_; intro w3 hN3 hg3; have hx23 : Ext w2 w3 := ((Ext.refl _).alloc _).grown_ hg3 (by simp); have hR3 := hR2.ext hx23)
    | (go_at_call 25; (have hgd := rgood_calls gR _ w3 hR3; rw [hb0] at hgd; (with_reducible refine hgd.mono ?_); rintro e w' ⟨rfl, rfl⟩)))
  obtain ⟨hS, hl2R, hlRN', hlNB'⟩ := dec_start false hgR hR1 hx1 hR2 ht2 hx23 hN3
  obtain ⟨B, hB⟩ : ∃ B, B = w3.heap.size := ⟨_, rfl⟩
  obtain ⟨gN, hgN⟩ : ∃ g, g = w2.heap.size := ⟨_, rfl⟩
  obtain ⟨g2, hg2⟩ : ∃ g, g = w.heap.size := ⟨_, rfl⟩
  have hl0B : w.heap.size ≤ B := by omega
  have hl0N : w.heap.size ≤ gN := by omega
  have hlRN : gR < gN := by omega
  have hlNB : gN < B := by omega
  have hlRB : gR < B := by omega
  have hl2B : g2 < B := by omega
  have hl2g : g2 < gR := by omega
  have hl2w : w.heap.size ≤ g2 := by omega
  have hl0R : w.heap.size ≤ gR := by omega
  rw [← hB, ← hgN, ← hg2] at hS
  rw [← hgN, ← hg2]
  clear hB hgN hg2 hlRN' hlNB' hl2R hN3 hg3 hx23 hR3 hR2 hR1 ht2 hx1 hgR
  go_loopg [29] cnt (fun gk i wr => ∃ (j : Nat) (D : DSt) (A1 : Option Addr) (c1 : Nat), i = .int .i64 j ∧ j + gk = cnt ∧ Hid (D = dpairs false r0 j) ∧ OW w B (fun u => Rdr u gR D.r ∧ Blk u g2 25 #[.bool false, .slice none 0 0, .slice none 0 0, .slice none 0 0]) gN 25 #[.bool false, .slice A1 j c1, .slice none 0 0, .slice none 0 0] [⟨9, 1, j, sv D.ks, .slice A1 j c1⟩, ⟨9, 1, 0, [], .slice none 0 0⟩, ⟨3, 1, 0, [], .slice none 0 0⟩] wr)
  case atStart => exact ⟨0, dpairs false r0 0, none, 0, rfl, by omega, Lib.hid rfl, hS⟩
  case round =>
    obtain ⟨j, D, A1, c1, rfl, hjk, hD, hX0⟩ := hrel
    by_cases hlt : j < cnt
    · obtain ⟨gk', rfl⟩ : ∃ k, gk = k + 1 := ⟨gk - 1, by omega⟩
      go_wp2
      refine wp_region_opsC (CInv [31, 32, 33, 34, 35, 36, 37] _ [(0, 31, .pointer (some ⟨gN, 1, none⟩)), (1, 32, .slice A1 j c1), (2, 33, .pointer (some ⟨gR, 0, none⟩)), (6, 37, .pointer (some ⟨gN, 1, none⟩))] [(3, some 34), (4, some 35), (5, some 36), (7, none)] (PushW (OW w B (fun u => Rdr u gR D.r ∧ Blk u g2 25 #[.bool false, .slice none 0 0, .slice none 0 0, .slice none 0 0]) gN 25 #[.bool false, .slice A1 j c1, .slice none 0 0, .slice none 0 0] [⟨9, 1, j, sv D.ks, .slice A1 j c1⟩, ⟨9, 1, 0, [], .slice none 0 0⟩, ⟨3, 1, 0, [], .slice none 0 0⟩]) (OW w B (fun u => Rdr u gR (D.r.text 48).2 ∧ Blk u g2 25 #[.bool false, .slice none 0 0, .slice none 0 0, .slice none 0 0]) gN 25 #[.bool false, .slice A1 j c1, .slice none 0 0, .slice none 0 0] [⟨9, 1, j, sv D.ks, .slice A1 j c1⟩, ⟨9, 1, 0, [], .slice none 0 0⟩, ⟨3, 1, 0, [], .slice none 0 0⟩]) ((Value.string (bstr (D.r.text 48).1))) [Value.string (bstr (D.r.text 48).1)] (fun v => OW w B (fun u => Rdr u gR (D.r.text 48).2 ∧ Blk u g2 25 #[.bool false, .slice none 0 0, .slice none 0 0, .slice none 0 0]) gN 25 #[.bool false, .slice A1 j c1, .slice none 0 0, .slice none 0 0] [⟨9, 1, j + 1, sv D.ks ++ [Value.string (bstr (D.r.text 48).1)], v⟩, ⟨9, 1, 0, [], .slice none 0 0⟩, ⟨3, 1, 0, [], .slice none 0 0⟩]) (fun v => OW w B (fun u => Rdr u gR (D.r.text 48).2 ∧ Blk u g2 25 #[.bool false, .slice none 0 0, .slice none 0 0, .slice none 0 0]) gN 25 #[.bool false, v, .slice none 0 0, .slice none 0 0] [⟨9, 1, j + 1, sv D.ks ++ [Value.string (bstr (D.r.text 48).1)], v⟩, ⟨9, 1, 0, [], .slice none 0 0⟩, ⟨3, 1, 0, [], .slice none 0 0⟩]))) (by kernel_rfl) (by kernel_rfl) (CInv.start (OW.more hX0 (dec_stays hlRB hl2B) ((Ext.refl _).drew))) ?_ ?_
      · refine ⟨?o0, ?o1, ?o2, ?o3, ?o4, ?o5, ?o6, ?o7, trivial⟩
        case o0 =>
          intro f a u h hfi hp hq hcl
          have q6 : a.tmps[6]?.getD undef = .pointer (some ⟨gN, 0, none⟩) := h.agree.att (by decide)
          exact h.yield rfl rfl 31 rfl (by change 31 < 77; decide) rfl _ rfl (by go_simp)
        case o1 =>
          intro f a u h hfi hp hq hcl
          have q31 := h.att 0 rfl (pre_of hp 0 rfl)
          obtain ⟨xs, hx, hl⟩ := h.before 2 rfl (hq 5 _ rfl rfl)
          have hN := PushW.ahead (N := fun u => Blk u gN 25 #[.bool false, .slice A1 j c1, .slice none 0 0, .slice none 0 0]) hx (by omega) (fun _ h => h.nod) (fun _ h => h.nod) (fun _ _ h => h.nod)
          have c1 : u.cell? ⟨gN, 1, none⟩ = some (.slice A1 j c1) := hN.cell 1
          clear hN hx
          exact h.yield rfl rfl 32 rfl (by change 32 < 77; decide) rfl _ rfl (by go_simp)
        case o2 =>
          intro f a u h hfi hp hq hcl
          have q4 : a.tmps[4]?.getD undef = .pointer (some ⟨gR, 0, none⟩) := h.agree.att (by decide)
          exact h.yield rfl rfl 33 rfl (by change 33 < 77; decide) rfl _ rfl (by go_simp)
        case o3 =>
          intro f a u h hfi hp hq hcl
          refine h.link hfi rfl rfl 0 _ rfl rfl (fun t ht => by cases ht; change 34 < 77; decide) rfl (fun k c d' hk hc => by omega) ?_
          intro xs hl hX hv
          obtain rfl : xs = [] := List.eq_nil_of_length_eq_zero hl
          have hX : OW w B (fun u => Rdr u gR D.r ∧ Blk u g2 25 #[.bool false, .slice none 0 0, .slice none 0 0, .slice none 0 0]) gN 25 #[.bool false, .slice A1 j c1, .slice none 0 0, .slice none 0 0] [⟨9, 1, j, sv D.ks, .slice A1 j c1⟩, ⟨9, 1, 0, [], .slice none 0 0⟩, ⟨3, 1, 0, [], .slice none 0 0⟩] u := hX
          refine wp_call 26 #[.tmp 33, .const (.int .i64 48)] #[50, 3] _ rfl (by kernel_rfl) (by rw [arr2, h.at_ 2 rfl (pre_of hp 2 rfl), show a.eval (.const (.int .i64 48)) = .int .i64 48 from rfl]) (Calls.mono (rtext_calls gR D.r 48 _ hX.rd.1 (by omega)) ?_)
          rintro e u' ⟨rfl, hr1, ht1⟩
          exact ⟨_, rfl, _, rfl, rfl, hX.turn ht1 ⟨hr1, hX.rd.2.grown ht1 (by intro e; cases e; omega)⟩ (fun k hk => by cases hk; exact ⟨by omega, by omega, by omega⟩)⟩
        case o4 =>
          intro f a u h hfi hp hq hcl
          refine h.link hfi rfl rfl 1 _ rfl rfl (fun t ht => by cases ht; change 35 < 77; decide) rfl (fun k c d' hk hc => by (have hk0 : k = 0 := (by omega)); subst hk0; cases hc; exact (pre_of hp 3 rfl)) ?_
          intro xs hl hX hv
          obtain ⟨s, rfl⟩ := len1 hl
          obtain ⟨hs, hX⟩ : s = _ ∧ OW w B (fun u => Rdr u gR (D.r.text 48).2 ∧ Blk u g2 25 #[.bool false, .slice none 0 0, .slice none 0 0, .slice none 0 0]) gN 25 #[.bool false, .slice A1 j c1, .slice none 0 0, .slice none 0 0] [⟨9, 1, j, sv D.ks, .slice A1 j c1⟩, ⟨9, 1, 0, [], .slice none 0 0⟩, ⟨3, 1, 0, [], .slice none 0 0⟩] u := hX
          have e34 := (hv 0 _ _ rfl (by decide)).trans hs
          refine wp_val (exec_buildSlice rfl (by rw [arr1]; simp only [show a.eval (.tmp 34) = _ from e34]; rfl)) (lit1_strs _ _) ?_
          exact ⟨_, rfl, hs, ⟨_, rfl, Cells.lit rfl [Value.string (bstr (D.r.text 48).1)] _ _⟩, hX.more (dec_stays hlRB hl2B) ((Ext.refl _).alloc _)⟩
        case o5 =>
          intro f a u h hfi hp hq hcl
          refine h.link hfi rfl rfl 2 _ rfl rfl (fun t ht => by cases ht; change 36 < 77; decide) rfl (fun k c d' hk hc => by (have hk0 : k = 1 := (by omega)); subst hk0; cases hc; exact (pre_of hp 4 rfl)) ?_
          intro xs hl hX hv
          obtain ⟨s, l, rfl⟩ := len2 hl
          obtain ⟨hs, ⟨g, rfl, hc⟩, hX⟩ : s = _ ∧ (∃ g, l = _ ∧ _) ∧ OW w B (fun u => Rdr u gR (D.r.text 48).2 ∧ Blk u g2 25 #[.bool false, .slice none 0 0, .slice none 0 0, .slice none 0 0]) gN 25 #[.bool false, .slice A1 j c1, .slice none 0 0, .slice none 0 0] [⟨9, 1, j, sv D.ks, .slice A1 j c1⟩, ⟨9, 1, 0, [], .slice none 0 0⟩, ⟨3, 1, 0, [], .slice none 0 0⟩] u := hX
          have el := hv 1 _ _ rfl (by decide)
          refine wp_append u (.tmp 32) (.tmp 35) 22 rfl B 9 (.string ByteArray.empty) 1 16 Try.underlying22 (by kernel_rfl) rfl (by decide) _ j _ (h.at_ 1 rfl (pre_of hp 1 rfl)) (hX.own 0 _ rfl) (some ⟨g, 0, none⟩) 1 1 [Value.string (bstr (D.r.text 48).1)] el rfl hc (by intro u hu; simp only [List.mem_singleton] at hu; subst hu; rfl) (by simp only [maxLen]; omega) (by omega) hX.hB ?_
          intro v' u' ho hg hf
          exact ⟨_, rfl, hs, hX.app (dec_stays hlRB hl2B) hlNB hl0B (i := 0) rfl ho hg hf⟩
        case o6 =>
          intro f a u h hfi hp hq hcl
          have q6 : a.tmps[6]?.getD undef = .pointer (some ⟨gN, 0, none⟩) := h.agree.att (by decide)
          exact h.yield rfl rfl 37 rfl (by change 37 < 77; decide) rfl _ rfl (by go_simp)
        case o7 =>
          intro f a u h hfi hp hq hcl
          refine h.link hfi rfl rfl 3 _ rfl rfl (fun t ht => by cases ht) rfl (fun k c d' hk hc => by (have hk0 : k = 2 := (by omega)); subst hk0; cases hc; exact (pre_of hp 5 rfl)) ?_
          intro xs hl hX hv
          obtain ⟨s, l, v, rfl⟩ := len3 hl
          obtain ⟨hs, hX⟩ : s = _ ∧ OW w B (fun u => Rdr u gR (D.r.text 48).2 ∧ Blk u g2 25 #[.bool false, .slice none 0 0, .slice none 0 0, .slice none 0 0]) gN 25 #[.bool false, .slice A1 j c1, .slice none 0 0, .slice none 0 0] [⟨9, 1, j + 1, sv D.ks ++ [Value.string (bstr (D.r.text 48).1)], v⟩, ⟨9, 1, 0, [], .slice none 0 0⟩, ⟨3, 1, 0, [], .slice none 0 0⟩] u := hX
          have ev := hv 2 _ _ rfl (by decide)
          obtain ⟨Av, cv, hvv, _, _, _⟩ := own_form (hX.own 0 _ rfl) (by show 0 < 1; decide)
          have hvv : v = .slice Av (j + 1) cv := hvv
          subst hvv
          have c1 : u.cell? ⟨gN, 1, none⟩ = some (.slice A1 j c1) := hX.nod.cell 1
          have f1 := hX.nod.frozen 1
          refine wp_store_cell 22 (.tmp 37) (.tmp 36) rfl rfl (h.at_ 3 rfl (pre_of hp 6 rfl)) ev (store_strs _ _ _ _ _ _ c1 f1) ?_
          exact ⟨.tuple #[], rfl, hs, hX.sto (grown_set u gN 1 _) (blk_set hX.nod 1 _) (dec_after hX.rd hlRN (by omega) _ _) hlNB hl0N⟩
      · intro f a u h hall hfar
        obtain ⟨xs, hxl, hX, hv⟩ := h.done (by intro c hc; simp only [List.mem_cons, List.not_mem_nil, or_false] at hc; rcases hc with rfl | rfl | rfl | rfl; all_goals exact hall _ (by decide))
        obtain ⟨s, l, v, t, rfl⟩ := len4 hxl
        have hX : OW w B (fun u => Rdr u gR (D.r.text 48).2 ∧ Blk u g2 25 #[.bool false, .slice none 0 0, .slice none 0 0, .slice none 0 0]) gN 25 #[.bool false, v, .slice none 0 0, .slice none 0 0] [⟨9, 1, j + 1, sv D.ks ++ [Value.string (bstr (D.r.text 48).1)], v⟩, ⟨9, 1, 0, [], .slice none 0 0⟩, ⟨3, 1, 0, [], .slice none 0 0⟩] u := hX.2
        have hag := h.agree.out
        simp only [List.foldl_cons, List.foldl_nil, Act.put, List.setIfInBounds_toArray, List.set_cons_zero, List.set_cons_succ] at hag
        generalize a.eval (.tmp 31) = y31 at hag
        generalize a.eval (.tmp 32) = y32 at hag
        generalize a.eval (.tmp 33) = y33 at hag
        generalize a.eval (.tmp 34) = y34 at hag
        generalize a.eval (.tmp 35) = y35 at hag
        generalize a.eval (.tmp 36) = y36 at hag
        generalize a.eval (.tmp 37) = y37 at hag
        clear h hall hfar hxl hv
        subst hag
        obtain ⟨Av1, cv1, hvv, lv, mv, hcv⟩ := own_form (hX.own 0 _ rfl) (by show 0 < 1; decide)
        have hvv : v = .slice Av1 (j + 1) cv1 := hvv
        subst hvv
        clear lv mv hcv
        have c0 : u.cell? ⟨gN, 0, none⟩ = some (.bool false) := hX.nod.cell 0
        go_wp2
        go_roundg gk'
        case measure => omega
        case rel =>
          rw [sv_snoc] at hX
          exact ⟨j + 1, ⟨D.ks ++ [bstr (D.r.text 48).1], D.vs, (D.r.text 48).2⟩, Av1, cv1, by go_num, by omega, Lib.hid (by rw [hD.out]; rfl), hX⟩
    · obtain rfl : j = cnt := by omega
      clear hlt hS
      go_wp2
      go_loopg [8] (j + 1) (fun gk2 i2 wq => ∃ (j2 : Nat) (D2 : KSt) (A3 : Option Addr) (c3 : Nat), i2 = .int .i64 j2 ∧ j2 + gk2 = j + 1 ∧ Hid (D2 = dkids D.r j2) ∧ OW w B (fun u => Rdr u gR D2.r ∧ Blk u g2 25 #[.bool false, .slice none 0 0, .slice none 0 0, .slice none 0 0]) gN 25 #[.bool false, .slice A1 j c1, .slice none 0 0, .slice A3 j2 c3] [⟨9, 1, j, sv D.ks, .slice A1 j c1⟩, ⟨9, 1, 0, [], .slice none 0 0⟩, ⟨3, 1, j2, iv D2.ds, .slice A3 j2 c3⟩] wq)
      case atStart => exact ⟨0, dkids D.r 0, none, 0, rfl, by omega, Lib.hid rfl, hX0⟩
      case round =>
        obtain ⟨j2, D2, A3, c3, rfl, hjk2, hD2, hX2⟩ := hrel
        have c0 : wr.cell? ⟨gN, 0, none⟩ = some (.bool false) := hX2.nod.cell 0
        by_cases hlt2 : j2 ≤ j
        · obtain ⟨gk2', rfl⟩ : ∃ k, gk = k + 1 := ⟨gk - 1, by omega⟩
          go_wp2
          refine wp_region_opsC (CInv [58, 59, 60, 61, 62, 63, 64, 65, 66] _ [(0, 58, .pointer (some ⟨gN, 3, none⟩)), (1, 59, .slice A3 j2 c3), (2, 60, .pointer (some ⟨gR, 0, none⟩)), (4, 62, .int .u64 ((min D2.r.uint.1 4096 : Nat) : Int)), (5, 63, .int .i64 ((min D2.r.uint.1 4096 : Nat) : Int)), (8, 66, .pointer (some ⟨gN, 3, none⟩))] [(3, some 61), (6, some 64), (7, some 65), (9, none)] (PushW (OW w B (fun u => Rdr u gR D2.r ∧ Blk u g2 25 #[.bool false, .slice none 0 0, .slice none 0 0, .slice none 0 0]) gN 25 #[.bool false, .slice A1 j c1, .slice none 0 0, .slice A3 j2 c3] [⟨9, 1, j, sv D.ks, .slice A1 j c1⟩, ⟨9, 1, 0, [], .slice none 0 0⟩, ⟨3, 1, j2, iv D2.ds, .slice A3 j2 c3⟩]) (OW w B (fun u => Rdr u gR D2.r.uint.2 ∧ Blk u g2 25 #[.bool false, .slice none 0 0, .slice none 0 0, .slice none 0 0]) gN 25 #[.bool false, .slice A1 j c1, .slice none 0 0, .slice A3 j2 c3] [⟨9, 1, j, sv D.ks, .slice A1 j c1⟩, ⟨9, 1, 0, [], .slice none 0 0⟩, ⟨3, 1, j2, iv D2.ds, .slice A3 j2 c3⟩]) ((Value.int .u64 (D2.r.uint.1 : Nat))) [Value.int .i64 ((min D2.r.uint.1 4096 : Nat) : Int)] (fun v => OW w B (fun u => Rdr u gR D2.r.uint.2 ∧ Blk u g2 25 #[.bool false, .slice none 0 0, .slice none 0 0, .slice none 0 0]) gN 25 #[.bool false, .slice A1 j c1, .slice none 0 0, .slice A3 j2 c3] [⟨9, 1, j, sv D.ks, .slice A1 j c1⟩, ⟨9, 1, 0, [], .slice none 0 0⟩, ⟨3, 1, j2 + 1, iv D2.ds ++ [Value.int .i64 ((min D2.r.uint.1 4096 : Nat) : Int)], v⟩]) (fun v => OW w B (fun u => Rdr u gR D2.r.uint.2 ∧ Blk u g2 25 #[.bool false, .slice none 0 0, .slice none 0 0, .slice none 0 0]) gN 25 #[.bool false, .slice A1 j c1, .slice none 0 0, v] [⟨9, 1, j, sv D.ks, .slice A1 j c1⟩, ⟨9, 1, 0, [], .slice none 0 0⟩, ⟨3, 1, j2 + 1, iv D2.ds ++ [Value.int .i64 ((min D2.r.uint.1 4096 : Nat) : Int)], v⟩]))) (by kernel_rfl) (by kernel_rfl) (CInv.start (OW.more hX2 (dec_stays hlRB hl2B) ((Ext.refl _).drew))) ?_ ?_
          · refine ⟨?o0, ?o1, ?o2, ?o3, ?o4, ?o5, ?o6, ?o7, ?o8, ?o9, trivial⟩
            case o0 =>
              intro f a u h hfi hp hq hcl
              have q6 : a.tmps[6]?.getD undef = .pointer (some ⟨gN, 0, none⟩) := h.agree.att (by decide)
              exact h.yield rfl rfl 58 rfl (by change 58 < 77; decide) rfl _ rfl (by go_simp)
            case o1 =>
              intro f a u h hfi hp hq hcl
              have q58 := h.att 0 rfl (pre_of hp 0 rfl)
              obtain ⟨xs, hx, hl⟩ := h.before 2 rfl (hq 7 _ rfl rfl)
              have hN := PushW.ahead (N := fun u => Blk u gN 25 #[.bool false, .slice A1 j c1, .slice none 0 0, .slice A3 j2 c3]) hx (by omega) (fun _ h => h.nod) (fun _ h => h.nod) (fun _ _ h => h.nod)
              have c1 : u.cell? ⟨gN, 3, none⟩ = some (.slice A3 j2 c3) := hN.cell 3
              clear hN hx
              exact h.yield rfl rfl 59 rfl (by change 59 < 77; decide) rfl _ rfl (by go_simp)
            case o2 =>
              intro f a u h hfi hp hq hcl
              have q4 : a.tmps[4]?.getD undef = .pointer (some ⟨gR, 0, none⟩) := h.agree.att (by decide)
              exact h.yield rfl rfl 60 rfl (by change 60 < 77; decide) rfl _ rfl (by go_simp)
            case o3 =>
              intro f a u h hfi hp hq hcl
              refine h.link hfi rfl rfl 0 _ rfl rfl (fun t ht => by cases ht; change 61 < 77; decide) rfl (fun k c d' hk hc => by omega) ?_
              intro xs hl hX hv
              obtain rfl : xs = [] := List.eq_nil_of_length_eq_zero hl
              have hX : OW w B (fun u => Rdr u gR D2.r ∧ Blk u g2 25 #[.bool false, .slice none 0 0, .slice none 0 0, .slice none 0 0]) gN 25 #[.bool false, .slice A1 j c1, .slice none 0 0, .slice A3 j2 c3] [⟨9, 1, j, sv D.ks, .slice A1 j c1⟩, ⟨9, 1, 0, [], .slice none 0 0⟩, ⟨3, 1, j2, iv D2.ds, .slice A3 j2 c3⟩] u := hX
              refine wp_call 24 #[.tmp 60] #[50] _ rfl (by kernel_rfl) (by rw [arr1, h.at_ 2 rfl (pre_of hp 2 rfl)]) (Calls.mono (ruint_calls gR D2.r _ hX.rd.1) ?_)
              rintro e u' ⟨rfl, hr1, ht1⟩
              exact ⟨_, rfl, _, rfl, rfl, hX.turn ht1 ⟨hr1, hX.rd.2.grown ht1 (by intro e; cases e; omega)⟩ (fun k hk => by cases hk; exact ⟨by omega, by omega, by omega⟩)⟩
            case o4 =>
              intro f a u h hfi hp hq hcl
              obtain ⟨xs, hx, hl, _, e61⟩ := h.got 0 rfl (pre_of hp 3 rfl)
              exact h.yield rfl rfl 62 rfl (by change 62 < 77; decide) rfl _ rfl (exec_min rfl (e61.trans (PushW.first hx hl)))
            case o5 =>
              intro f a u h hfi hp hq hcl
              have q62 := h.att 3 rfl (pre_of hp 4 rfl)
              have z := min_le D2.r.uint.1
              generalize min D2.r.uint.1 4096 = m at *
              exact h.yield rfl rfl 63 rfl (by change 63 < 77; decide) rfl _ rfl (by go_simp; rw [IntKind.wrap_i64]; omega)
            case o6 =>
              intro f a u h hfi hp hq hcl
              refine h.link hfi rfl rfl 1 _ rfl rfl (fun t ht => by cases ht; change 64 < 77; decide) rfl (fun k c d' hk hc => by (have hk0 : k = 0 := (by omega)); subst hk0; cases hc; exact (pre_cl hcl rfl (pre_cl hcl rfl (pre_of hp 5 rfl) 4 rfl) 3 rfl)) ?_
              intro xs hl hX hv
              obtain ⟨s, rfl⟩ := len1 hl
              obtain ⟨hs, hX⟩ : s = _ ∧ OW w B (fun u => Rdr u gR D2.r.uint.2 ∧ Blk u g2 25 #[.bool false, .slice none 0 0, .slice none 0 0, .slice none 0 0]) gN 25 #[.bool false, .slice A1 j c1, .slice none 0 0, .slice A3 j2 c3] [⟨9, 1, j, sv D.ks, .slice A1 j c1⟩, ⟨9, 1, 0, [], .slice none 0 0⟩, ⟨3, 1, j2, iv D2.ds, .slice A3 j2 c3⟩] u := hX
              have e63 := h.at_ 4 rfl (pre_of hp 5 rfl)
              refine wp_val (exec_buildSlice rfl (by rw [arr1]; simp only [show a.eval (.tmp 63) = _ from e63]; rfl)) (lit1_ints _ _) ?_
              exact ⟨_, rfl, hs, ⟨_, rfl, Cells.lit rfl [Value.int .i64 ((min D2.r.uint.1 4096 : Nat) : Int)] _ _⟩, hX.more (dec_stays hlRB hl2B) ((Ext.refl _).alloc _)⟩
            case o7 =>
              intro f a u h hfi hp hq hcl
              refine h.link hfi rfl rfl 2 _ rfl rfl (fun t ht => by cases ht; change 65 < 77; decide) rfl (fun k c d' hk hc => by (have hk0 : k = 1 := (by omega)); subst hk0; cases hc; exact (pre_of hp 6 rfl)) ?_
              intro xs hl hX hv
              obtain ⟨s, l, rfl⟩ := len2 hl
              obtain ⟨hs, ⟨g, rfl, hc⟩, hX⟩ : s = _ ∧ (∃ g, l = _ ∧ _) ∧ OW w B (fun u => Rdr u gR D2.r.uint.2 ∧ Blk u g2 25 #[.bool false, .slice none 0 0, .slice none 0 0, .slice none 0 0]) gN 25 #[.bool false, .slice A1 j c1, .slice none 0 0, .slice A3 j2 c3] [⟨9, 1, j, sv D.ks, .slice A1 j c1⟩, ⟨9, 1, 0, [], .slice none 0 0⟩, ⟨3, 1, j2, iv D2.ds, .slice A3 j2 c3⟩] u := hX
              have el := hv 1 _ _ rfl (by decide)
              refine wp_append u (.tmp 59) (.tmp 64) 23 rfl B 3 (.int .i64 0) 1 8 Try.underlying23 (by kernel_rfl) rfl (by decide) _ j2 _ (h.at_ 1 rfl (pre_of hp 1 rfl)) (hX.own 2 _ rfl) (some ⟨g, 0, none⟩) 1 1 [Value.int .i64 ((min D2.r.uint.1 4096 : Nat) : Int)] el rfl hc (by intro u hu; simp only [List.mem_singleton] at hu; subst hu; rfl) (by simp only [maxLen]; omega) (by omega) hX.hB ?_
              intro v' u' ho hg hf
              exact ⟨_, rfl, hs, hX.app (dec_stays hlRB hl2B) hlNB hl0B (i := 2) rfl ho hg hf⟩
            case o8 =>
              intro f a u h hfi hp hq hcl
              have q6 : a.tmps[6]?.getD undef = .pointer (some ⟨gN, 0, none⟩) := h.agree.att (by decide)
              exact h.yield rfl rfl 66 rfl (by change 66 < 77; decide) rfl _ rfl (by go_simp)
            case o9 =>
              intro f a u h hfi hp hq hcl
              refine h.link hfi rfl rfl 3 _ rfl rfl (fun t ht => by cases ht) rfl (fun k c d' hk hc => by (have hk0 : k = 2 := (by omega)); subst hk0; cases hc; exact (pre_of hp 7 rfl)) ?_
              intro xs hl hX hv
              obtain ⟨s, l, v, rfl⟩ := len3 hl
              obtain ⟨hs, hX⟩ : s = _ ∧ OW w B (fun u => Rdr u gR D2.r.uint.2 ∧ Blk u g2 25 #[.bool false, .slice none 0 0, .slice none 0 0, .slice none 0 0]) gN 25 #[.bool false, .slice A1 j c1, .slice none 0 0, .slice A3 j2 c3] [⟨9, 1, j, sv D.ks, .slice A1 j c1⟩, ⟨9, 1, 0, [], .slice none 0 0⟩, ⟨3, 1, j2 + 1, iv D2.ds ++ [Value.int .i64 ((min D2.r.uint.1 4096 : Nat) : Int)], v⟩] u := hX
              have ev := hv 2 _ _ rfl (by decide)
              obtain ⟨Av, cv, hvv, _, _, _⟩ := own_form (hX.own 2 _ rfl) (by show 0 < 1; decide)
              have hvv : v = .slice Av (j2 + 1) cv := hvv
              subst hvv
              have c1 : u.cell? ⟨gN, 3, none⟩ = some (.slice A3 j2 c3) := hX.nod.cell 3
              have f1 := hX.nod.frozen 3
              refine wp_store_cell 23 (.tmp 66) (.tmp 65) rfl rfl (h.at_ 5 rfl (pre_of hp 8 rfl)) ev (store_ints _ _ _ _ _ _ c1 f1) ?_
              exact ⟨.tuple #[], rfl, hs, hX.sto (grown_set u gN 3 _) (blk_set hX.nod 3 _) (dec_after hX.rd hlRN (by omega) _ _) hlNB hl0N⟩
          · intro f a u h hall hfar
            obtain ⟨xs, hxl, hX, hv⟩ := h.done (by intro c hc; simp only [List.mem_cons, List.not_mem_nil, or_false] at hc; rcases hc with rfl | rfl | rfl | rfl; all_goals exact hall _ (by decide))
            obtain ⟨s, l, v, t, rfl⟩ := len4 hxl
            have hX : OW w B (fun u => Rdr u gR D2.r.uint.2 ∧ Blk u g2 25 #[.bool false, .slice none 0 0, .slice none 0 0, .slice none 0 0]) gN 25 #[.bool false, .slice A1 j c1, .slice none 0 0, v] [⟨9, 1, j, sv D.ks, .slice A1 j c1⟩, ⟨9, 1, 0, [], .slice none 0 0⟩, ⟨3, 1, j2 + 1, iv D2.ds ++ [Value.int .i64 ((min D2.r.uint.1 4096 : Nat) : Int)], v⟩] u := hX.2
            have hag := h.agree.out
            simp only [List.foldl_cons, List.foldl_nil, Act.put, List.setIfInBounds_toArray, List.set_cons_zero, List.set_cons_succ] at hag
            generalize a.eval (.tmp 58) = y58 at hag
            generalize a.eval (.tmp 59) = y59 at hag
            generalize a.eval (.tmp 60) = y60 at hag
            generalize a.eval (.tmp 61) = y61 at hag
            generalize a.eval (.tmp 62) = y62 at hag
            generalize a.eval (.tmp 63) = y63 at hag
            generalize a.eval (.tmp 64) = y64 at hag
            generalize a.eval (.tmp 65) = y65 at hag
            generalize a.eval (.tmp 66) = y66 at hag
            clear h hall hfar hxl hv
            subst hag
            obtain ⟨Av3, cv3, hvv, lv, mv, hcv⟩ := own_form (hX.own 2 _ rfl) (by show 0 < 1; decide)
            have hvv : v = .slice Av3 (j2 + 1) cv3 := hvv
            subst hvv
            clear lv mv hcv
            go_wp2
            go_roundg gk2'
            case measure => omega
            case rel =>
              rw [iv_snoc] at hX
              exact ⟨j2 + 1, ⟨D2.ds ++ [((min D2.r.uint.1 4096 : Nat) : Int)], D2.r.uint.2⟩, Av3, cv3, by go_num, by omega, Lib.hid (by rw [hD2.out]; rfl), hX⟩
        · obtain rfl : j2 = j + 1 := by omega
          have hgd := rgood_calls gR _ wr hX2.rd.1
          have hks : D.ks.length = j := by rw [hD.out]; exact dpairs_ks _ _ _
          have hds : D2.ds.length = j + 1 := by rw [hD2.out]; exact dkids_ds _ _
          obtain ⟨hsk, _, _⟩ := dpairs_sizes false r0 140737488351232 hrl j
          have hsd := dkids_sizes D.r (j + 1)
          have hvs0 : D.vs = [] := by rw [hD.out]; exact dpairs_vs0 _ _
          rw [← hD.out] at hsk
          rw [← hD2.out] at hsd
          obtain ⟨hNd, hf1, hf2, hf3⟩ := dec_fin false ⟨false, D.ks, [], D2.ds⟩ hX2 hks rfl hds (by omega) (by omega) (by omega) hsk (by intro p hp; cases hp) hsd
          have hT : decTail false j r0 = if D2.r.bad || !(Nd.good ⟨false, D.ks, [], D2.ds⟩) then none else some ⟨false, D.ks, [], D2.ds⟩ := by
            unfold decTail
            simp only [Bool.false_eq_true, if_false]
            rw [← hD.out, ← hD2.out, hvs0]
          obtain ⟨nd, hnd⟩ : ∃ nd : Nd, nd = ⟨false, D.ks, [], D2.ds⟩ := ⟨_, rfl⟩
          have hndl : nd.leaf = false := by rw [hnd]
          rw [← hnd] at hNd hT
          have HT := Lib.hid hT
          have HNd := Lib.hid hNd
          have Hl := Lib.hid hndl
          have hN := hX2.nod
          have hres := hX2.rd.2
          have hxe := hX2.ext
          have HN := Lib.hid hN
          clear hks hds hsk hsd hvs0 hT hNd hnd hndl hX2 hX0 hN hD hD2
          obtain ⟨c0, c1', c2', c3'⟩ := node_cells HN.out
          cases hbad : D2.r.bad with
          | true =>
            rw [hbad] at hgd
            rw [hbad] at HT
            go_wp2_with (first
              | (go_at_call 25; ((with_reducible refine hgd.mono ?_); rintro e w' ⟨rfl, rfl⟩))
              | (refine wpList_store_blk rfl 25 (.tmp 2) (.tmp 75) rfl rfl g2 ndZ rfl rfl _ _ hres rfl (by kernel_rfl) (by simp [Value.oneCell']) ?_; intro w5 hb5 hg5))
            refine bodyPost_ret (results_row_tmp (P := Try.prog) (fn := Try.f15) rfl _ _ g2 25 ndZ _ rfl hb5 Try.underlying25 rfl (by kernel_rfl)) rfl ?_
            exact decPost_none (hxe.grown_ hg5 (by intro k hk; cases hk; exact hl2w)) (by rw [HT.out]; rfl)
          | false =>
            rw [hbad] at hgd
            rw [hbad] at HT
            cases hg : nd.good with
            | false =>
              rw [hg] at HT
              go_wp2_with (first
                | (go_at_call 25; ((with_reducible refine hgd.mono ?_); rintro e w' ⟨rfl, rfl⟩))
                | (go_at_call 12; ((with_reducible refine (good_calls_l nd false Hl.out _ _ _ _ _ _ _ _ _ _ HNd.out).mono ?_); rintro e w4 ⟨rfl, hx4⟩; rw [hg]; have hres4 := hres.ext hx4))
                | (refine wpList_store_blk rfl 25 (.tmp 2) (.tmp 75) rfl rfl g2 ndZ rfl rfl _ _ hres4 rfl (by kernel_rfl) (by simp [Value.oneCell']) ?_; intro w5 hb5 hg5))
              refine bodyPost_ret (results_row_tmp (P := Try.prog) (fn := Try.f15) rfl _ _ g2 25 ndZ _ rfl hb5 Try.underlying25 rfl (by kernel_rfl)) rfl ?_
              exact decPost_none ((hxe.trans hx4).grown_ hg5 (by intro k hk; cases hk; exact hl2w)) (by rw [HT.out]; rfl)
            | true =>
              rw [hg] at HT
              go_wp2_with (first
                | (go_at_call 25; ((with_reducible refine hgd.mono ?_); rintro e w' ⟨rfl, rfl⟩))
                | (go_at_call 12; ((with_reducible refine (good_calls_l nd false Hl.out _ _ _ _ _ _ _ _ _ _ HNd.out).mono ?_); rintro e w4 ⟨rfl, hx4⟩; rw [hg]; have hres4 := hres.ext hx4; clear c0 c1' c2' c3'; obtain ⟨c0, c1', c2', c3'⟩ := node_cells (HN.out.ext hx4)))
                | (refine wpList_store_blk rfl 25 (.tmp 2) (.tmp 76) rfl rfl g2 #[.bool false, .slice A1 j c1, .slice none 0 0, .slice A3 (j + 1) c3] rfl rfl _ _ hres4 rfl (by kernel_rfl) (by simp [Value.oneCell']) ?_; intro w5 hb5 hg5))
              refine bodyPost_ret (results_row_tmp (P := Try.prog) (fn := Try.f15) rfl _ _ g2 25 #[.bool false, .slice A1 j c1, .slice none 0 0, .slice A3 (j + 1) c3] _ rfl hb5 Try.underlying25 rfl (by kernel_rfl)) rfl ?_
              exact decPost_some (hxe.trans hx4) hg5 hl2w hl2B hl0B Hl.out (by rw [HT.out]; rfl) (HNd.out.ext hx4) hf1 hf2 hf3
end Go.Proofs.Ytmfmpbeempjeoaa
