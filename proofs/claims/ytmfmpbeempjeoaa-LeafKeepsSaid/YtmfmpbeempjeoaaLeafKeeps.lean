/- LeafKeeps: what is handed in stays: the walk of the law. Printed by wip/mkleafkeeps.py. -/
import Derived.Test.YtmfmpbeempjeoaaLeafBackPure
import Derived.Test.YtmfmpbeempjeoaaLeafSame
namespace Go.Proofs.Ytmfmpbeempjeoaa
open Go.RowKit
set_option linter.unusedVariables false

theorem sv_length (xs : List ByteArray) : (sv xs).length = xs.length := by simp [sv]
theorem iv_len (xs : List Int) : (iv xs).length = xs.length := by simp [iv]
theorem sv_one (xs : List ByteArray) : ∀ u ∈ sv xs, u.oneCell' = true := by
  intro u hu
  obtain ⟨c, _, rfl⟩ := List.mem_map.1 hu
  rfl
theorem iv_one (xs : List Int) : ∀ u ∈ iv xs, u.oneCell' = true := by
  intro u hu
  obtain ⟨c, _, rfl⟩ := List.mem_map.1 hu
  rfl
theorem lit0_strs (w : World) : (Instr.buildSlice 22 0 #[]).run Try.prog w = .ok (.slice (some ⟨w.heap.size, 0, none⟩) 0 0) (w.alloc (.cells #[] 9)) := by go_simp
theorem lit0_ints (w : World) : (Instr.buildSlice 23 0 #[]).run Try.prog w = .ok (.slice (some ⟨w.heap.size, 0, none⟩) 0 0) (w.alloc (.cells #[] 3)) := by go_simp
theorem alloc_node (w : World) : (Instr.alloc 25 true (.tuple #[])).run Try.prog w = .ok (.pointer (some ⟨w.heap.size, 0, none⟩)) (w.alloc (.cells #[.bool false, .slice none 0 0, .slice none 0 0, .slice none 0 0] 25)) := by go_simp
theorem build_node4 (w : World) (l : Bool) (A B C : Option Addr) (n c m d p q : Nat) : (Instr.build 25 #[(0, .bool l), (1, .slice A n c), (2, .slice B m d), (3, .slice C p q)]).run Try.prog w = .ok (.agg #[.bool l, .slice A n c, .slice B m d, .slice C p q]) w := by go_simp
theorem str_info : (Try.prog.info? 9).map (fun i => (i.zero, i.size, i.bytes)) = some (some (.string ByteArray.empty), 1, 16) := by kernel_rfl
theorem int_info : (Try.prog.info? 3).map (fun i => (i.zero, i.size, i.bytes)) = some (some (.int .i64 0), 1, 8) := by kernel_rfl
/-- What the region's slots own. -/
def keE (B : Nat) (n : Nd) (l : Bool) (K V D : Nat) : List Ent :=
  [entRow B 2 5 16 9 1 0 [], entRow B 5 14 19 9 1 (0 + K) ([] ++ sv n.keys), entRow B 6 9 20 9 1 0 [], entRow B 9 14 23 9 1 (0 + V) ([] ++ sv n.vals), entRow B 10 13 24 3 1 0 [], entRow B 13 14 27 3 1 (0 + D) ([] ++ iv n.kids), entAgg B 14 16 28 [.val (.bool l), .row 9 1 (0 + K) ([] ++ sv n.keys), .row 9 1 (0 + V) ([] ++ sv n.vals), .row 3 1 (0 + D) ([] ++ iv n.kids)], entBox B 15 16 3 25 ([.bool false, .slice none 0 0, .slice none 0 0, .slice none 0 0].map .val), entBox B 16 99 3 25 [.val (.bool l), .row 9 1 (0 + K) ([] ++ sv n.keys), .row 9 1 (0 + V) ([] ++ sv n.vals), .row 3 1 (0 + D) ([] ++ iv n.kids)]]
theorem keE_ok (B : Nat) (n : Nd) (l : Bool) (K V D : Nat) : ∀ e ∈ keE B n l K V D, e.OK B := by
  intro e he
  simp only [keE, List.mem_cons, List.not_mem_nil, or_false] at he
  rcases he with rfl | rfl | rfl | rfl | rfl | rfl | rfl | rfl | rfl
  all_goals first | exact entRow_ok .. | exact entAgg_ok .. | exact entBox_ok ..
def keP (g : Nat) (l : Bool) (ka va da : Option Addr) (K V D kc vc dc : Nat) : List (Nat × Nat × Value) :=
  [(0, 14, .pointer (some ⟨g, 0, none⟩)), (1, 15, .bool l), (3, 17, .pointer (some ⟨g, 1, none⟩)), (4, 18, .slice ka K kc), (7, 21, .pointer (some ⟨g, 2, none⟩)), (8, 22, .slice va V vc), (11, 25, .pointer (some ⟨g, 3, none⟩)), (12, 26, .slice da D dc)]
theorem flds_node {B : Nat} {w : World} {vs : Array Value} {a : Value} {t t' : TypeId} {n m k : Nat} {xs ys zs : List Value} (h : fldsOK B w [.val a, .row t 1 n xs, .row t 1 m ys, .row t' 1 k zs] vs.toList) :
    ∃ v1 v2 v3, vs = #[a, v1, v2, v3] ∧ w.ownsRow B t 1 v1 n xs ∧ w.ownsRow B t 1 v2 m ys ∧ w.ownsRow B t' 1 v3 k zs := by
  obtain ⟨l⟩ := vs
  match l, h with
  | [v0, v1, v2, v3], ⟨h0, h1, h2, h3, _⟩ =>
    have h0 : v0 = a := h0
    subst h0
    exact ⟨v1, v2, v3, rfl, h1, h2, h3⟩
theorem NdAt.grown_old {w0 w w' : World} {n : Nd} {ka va da : Option Addr} {K V D kc vc dc : Nat} (h : NdAt w0 n ka va da K V D kc vc dc) (k : Ext w0 w) {row : Option Nat} (hg : w.grownBy w' row) (hr : ∀ j, row = some j → w0.heap.size ≤ j) : NdAt w' n ka va da K V D kc vc dc :=
  ⟨h.hk, h.hv, h.hd, h.lk, h.lv, h.ld, h.ck.grown_old k hg hr, h.cv.grown_old k hg hr, h.cd.grown_old k hg hr, h.bk, h.bv_, h.bd_, h.sk, h.sv_, h.bd⟩
theorem u8_up (x : UInt8) : IntKind.u8.wrap ((x.toNat : Int) + 1) = ((x + 1 : UInt8).toNat : Int) := by
  have hx := x.toNat_lt
  have e : (x + 1 : UInt8).toNat = (x.toNat + 1) % 256 := by rw [UInt8.toNat_add]; rfl
  rw [e]
  simp only [IntKind.wrap, IntKind.bits, IntKind.signed]
  simp
theorem Own.set_at {B : Nat} {w : World} {g n cc : Nat} {bs : List UInt8} (h : Own B w (.slice (some ⟨g, 0, none⟩) n cc) bs) (hn : bs.length = n) (k : Nat) (x : UInt8) :
    Own B (w.setCell ⟨g, k, none⟩ (.int .u8 x.toNat)) (.slice (some ⟨g, 0, none⟩) n cc) (bs.set k x) ∧ w.grownBy (w.setCell ⟨g, k, none⟩ (.int .u8 x.toNat)) (some g) := by
  subst hn
  exact h.set k x
theorem Own.cell_at {B : Nat} {w : World} {g n cc : Nat} {bs : List UInt8} (h : Own B w (.slice (some ⟨g, 0, none⟩) n cc) bs) (hn : bs.length = n) {k : Nat} (hk : k < bs.length) : w.cell? ⟨g, k, none⟩ = some (.int .u8 bs[k].toNat) := by
  subst hn
  exact h.cell hk
theorem Own.frozen_at {B : Nat} {w : World} {g n cc : Nat} {bs : List UInt8} (h : Own B w (.slice (some ⟨g, 0, none⟩) n cc) bs) (hn : bs.length = n) (k : Nat) : w.frozen? ⟨g, k, none⟩ = false := by
  subst hn
  exact h.frozen k
theorem dec_nil : dec [] = none := by
  have : (PR.mk [] false).uint = (0, PR.fail) := rfl
  unfold dec
  rw [this]
  rfl

set_option maxRecDepth 50000 in
set_option maxHeartbeats 4000000 in
theorem keeps_great (n : Nd) (l : Bool) (hl : n.leaf = l) (ka va da : Option Addr) (K V D kc vc dc : Nat) (w : World) (h : NdAt w n ka va da K V D kc vc dc) (hg : 4096 < n.tot) :
    Calls Try.prog 7 #[nda l ka K kc va V vc da D dc] w fun e w' => e = .returned (.bool true) ∧ Ext w w' := by
  have htot : decide (4096 < n.tot) = true := decide_eq_true hg
  have Hh := Lib.hid h
  clear h
  go_enter Try.func7, Try.ntmps7
  have hbox : Blk (w.alloc (.cells #[.bool l, .slice ka K kc, .slice va V vc, .slice da D dc] 25)) w.heap.size 25 #[.bool l, .slice ka K kc, .slice va V vc, .slice da D dc] := Blk.new w _ _
  have hx0 : Ext w (w.alloc (.cells #[.bool l, .slice ka K kc, .slice va V vc, .slice da D dc] 25)) := (Ext.refl _).alloc _
  have Hbox := Lib.hid hbox
  clear hbox
  go_wp2_with (first
    | (go_at_call 8; ((with_reducible refine (leaf_alive _).mono ?_); rintro e w1 ⟨rfl, hx1⟩; have hy1 := hx1; obtain ⟨c0, c1, c2, c3⟩ := node_cells (Hbox.out.ext hy1)))
    | (go_at_call 9; ((with_reducible refine (great_calls n l 4096 4096 rfl ka va da K V D kc vc dc _ (Hh.out.ext (hx0.trans hy1)) (by decide)).mono ?_); rintro e w2 ⟨rfl, hx2⟩; have hy2 := hy1.trans hx2; clear c0 c1 c2 c3; obtain ⟨c0, c1, c2, c3⟩ := node_cells (Hbox.out.ext hy2); rw [htot])))
  go_ret
  exact ⟨rfl, hx0.trans hy2⟩

set_option maxRecDepth 50000 in
set_option maxHeartbeats 4000000 in
theorem keeps_main (n : Nd) (l : Bool) (hl : n.leaf = l) (ka va da : Option Addr) (K V D kc vc dc : Nat) (w : World) (h : NdAt w n ka va da K V D kc vc dc) (hg : n.tot ≤ 4096) (cs : List UInt8) (L : Nat) (hL : Hid (cs.length = L)) (hLb : L ≤ 512) (C C2 : Int) (l2 : Bool) (nd2 : Nd) (hC : (C2 = 0 ∧ nd2 = n ∧ l2 = l) ∨ C2 = 4)
    (henc : ∀ A1 A2 A3 d1 d2 d3 w', NdAt w' n A1 A2 A3 K V D d1 d2 d3 → Calls Try.prog 10 #[nda l A1 K d1 A2 V d2 A3 D d3] w' fun e w'' => (∃ v, e = .returned (.tuple #[v, .int .i64 C]) ∧ Own w'.heap.size w'' v cs) ∧ Ext w' w'')
    (hdec : ∀ A c w', Cells w' A (bv cs) → Calls Try.prog 15 #[.slice A L c] w' fun e w'' => ∃ (ka va da : Option Addr) (K V D kc vc dc : Nat), e = .returned (.tuple #[nda l2 ka K kc va V vc da D dc, .int .i64 C2]) ∧ NdAt w'' nd2 ka va da K V D kc vc dc ∧ Ext w' w'' ∧
      (∀ x, ka = some x → w'.heap.size ≤ x.block) ∧ (∀ x, va = some x → w'.heap.size ≤ x.block) ∧ (∀ x, da = some x → w'.heap.size ≤ x.block)) :
    Calls Try.prog 7 #[nda l ka K kc va V vc da D dc] w fun e w' => e = .returned (.bool true) ∧ Ext w w' := by
  have htot : decide (4096 < n.tot) = false := decide_eq_false (by omega)
  have hKV : K ≤ 4096 ∧ V ≤ 4096 ∧ D ≤ 4096 := by
    have h1 := ksum_len n.keys
    have h2 := ksum_len n.vals
    rw [h.hk] at h1
    rw [h.hv] at h2
    unfold Nd.tot at hg
    rw [h.hd] at hg
    omega
  obtain ⟨hK4, hV4, hD4⟩ := hKV
  have Hh := Lib.hid h
  clear h
  go_enter Try.func7, Try.ntmps7
  have hbox : Blk (w.alloc (.cells #[.bool l, .slice ka K kc, .slice va V vc, .slice da D dc] 25)) w.heap.size 25 #[.bool l, .slice ka K kc, .slice va V vc, .slice da D dc] := Blk.new w _ _
  have hx0 : Ext w (w.alloc (.cells #[.bool l, .slice ka K kc, .slice va V vc, .slice da D dc] 25)) := (Ext.refl _).alloc _
  have Hbox := Lib.hid hbox
  clear hbox
  go_wp2_with (first
    | (go_at_call 8; ((with_reducible refine (leaf_alive _).mono ?_); rintro e w1 ⟨rfl, hx1⟩; have hy1 := hx1; obtain ⟨c0, c1, c2, c3⟩ := node_cells (Hbox.out.ext hy1)))
    | (go_at_call 9; ((with_reducible refine (great_calls n l 4096 4096 rfl ka va da K V D kc vc dc _ (Hh.out.ext (hx0.trans hy1)) (by decide)).mono ?_); rintro e w2 ⟨rfl, hx2⟩; have hy2 := hy1.trans hx2; clear c0 c1 c2 c3; obtain ⟨c0, c1, c2, c3⟩ := node_cells (Hbox.out.ext hy2); rw [htot])))
  obtain ⟨g, hgg⟩ : ∃ g, g = w.heap.size := ⟨_, rfl⟩
  rw [← hgg] at c0 c1 c2 c3 ⊢
  have Hgg := Lib.hid hgg
  clear hgg
  have hd1 : diesTab (keE w2.drew.heap.size n l K V D) = true := rfl
  have hok := keE_ok w2.drew.heap.size n l K V D
  refine wp_region_ops (RInv [14, 15, 16, 17, 18, 19, 20, 21, 22, 23, 24, 25, 26, 27, 28, 3] _ w2.drew (keP g l ka va da K V D kc vc dc) (keE w2.drew.heap.size n l K V D)) (by kernel_rfl) (by kernel_rfl) RInv.start ?_ ?_
  · refine ⟨?o0, ?o1, ?o2, ?o3, ?o4, ?o5, ?o6, ?o7, ?o8, ?o9, ?o10, ?o11, ?o12, ?o13, ?o14, ?o15, ?o16, trivial⟩
    case o0 =>
      intro f a u h hfi hp hq
      have q1 : a.tmps[1]?.getD undef = .pointer (some ⟨g, 0, none⟩) := h.agree.att (by decide)
      exact h.yield hok hd1 hfi rfl rfl 14 rfl (by change 14 < 66; decide) rfl _ rfl (by go_simp)
    case o1 =>
      intro f a u h hfi hp hq
      have q14 := h.att 0 rfl (pre_of hp 0 rfl)
      have z := h.ext.cell (show w2.drew.cell? _ = _ from c0)
      exact h.yield hok hd1 hfi rfl rfl 15 rfl (by change 15 < 66; decide) rfl _ rfl (by go_simp)
    case o2 =>
      intro f a u h hfi hp hq
      exact h.lit hok hd1 hfi rfl rfl 16 rfl (by change 16 < 66; decide) rfl 5 9 0 #[] rfl rfl rfl (by decide) (exec_buildSlice rfl (arr0 _)) (lit0_strs _)
    case o3 =>
      intro f a u h hfi hp hq
      have q1 : a.tmps[1]?.getD undef = .pointer (some ⟨g, 0, none⟩) := h.agree.att (by decide)
      exact h.yield hok hd1 hfi rfl rfl 17 rfl (by change 17 < 66; decide) rfl _ rfl (by go_simp)
    case o4 =>
      intro f a u h hfi hp hq
      have q17 := h.att 2 rfl (pre_of hp 3 rfl)
      have z := h.ext.cell (show w2.drew.cell? _ = _ from c1)
      exact h.yield hok hd1 hfi rfl rfl 18 rfl (by change 18 < 66; decide) rfl _ rfl (by go_simp)
    case o5 =>
      intro f a u h hfi hp hq
      exact h.app hok hd1 hfi rfl rfl 19 rfl (by change 19 < 66; decide) rfl 16 (.tmp 18) 22 rfl 2 14 9 (.string ByteArray.empty) 16 0 K [] (sv n.keys) [] rfl rfl (by intro e he; simp only [List.mem_singleton] at he; subst he; exact pre_of hp 2 rfl)
        Try.underlying22 str_info rfl ka kc (h.at_ 3 rfl (pre_of hp 4 rfl)) (by rw [sv_length, Hh.out.hk]) (Hh.out.ck.ext ((hx0.trans (hy2.trans ((Ext.refl w2).drew))).trans h.ext)) (sv_one _) (by simp only [maxLen]; omega) (by omega)
    case o6 =>
      intro f a u h hfi hp hq
      exact h.lit hok hd1 hfi rfl rfl 20 rfl (by change 20 < 66; decide) rfl 9 9 0 #[] rfl rfl rfl (by decide) (exec_buildSlice rfl (arr0 _)) (lit0_strs _)
    case o7 =>
      intro f a u h hfi hp hq
      have q1 : a.tmps[1]?.getD undef = .pointer (some ⟨g, 0, none⟩) := h.agree.att (by decide)
      exact h.yield hok hd1 hfi rfl rfl 21 rfl (by change 21 < 66; decide) rfl _ rfl (by go_simp)
    case o8 =>
      intro f a u h hfi hp hq
      have q21 := h.att 4 rfl (pre_of hp 7 rfl)
      have z := h.ext.cell (show w2.drew.cell? _ = _ from c2)
      exact h.yield hok hd1 hfi rfl rfl 22 rfl (by change 22 < 66; decide) rfl _ rfl (by go_simp)
    case o9 =>
      intro f a u h hfi hp hq
      exact h.app hok hd1 hfi rfl rfl 23 rfl (by change 23 < 66; decide) rfl 20 (.tmp 22) 22 rfl 6 14 9 (.string ByteArray.empty) 16 0 V [] (sv n.vals) [] rfl rfl (by intro e he; simp only [List.mem_singleton] at he; subst he; exact pre_of hp 6 rfl)
        Try.underlying22 str_info rfl va vc (h.at_ 5 rfl (pre_of hp 8 rfl)) (by rw [sv_length, Hh.out.hv]) (Hh.out.cv.ext ((hx0.trans (hy2.trans ((Ext.refl w2).drew))).trans h.ext)) (sv_one _) (by simp only [maxLen]; omega) (by omega)
    case o10 =>
      intro f a u h hfi hp hq
      exact h.lit hok hd1 hfi rfl rfl 24 rfl (by change 24 < 66; decide) rfl 13 3 0 #[] rfl rfl rfl (by decide) (exec_buildSlice rfl (arr0 _)) (lit0_ints _)
    case o11 =>
      intro f a u h hfi hp hq
      have q1 : a.tmps[1]?.getD undef = .pointer (some ⟨g, 0, none⟩) := h.agree.att (by decide)
      exact h.yield hok hd1 hfi rfl rfl 25 rfl (by change 25 < 66; decide) rfl _ rfl (by go_simp)
    case o12 =>
      intro f a u h hfi hp hq
      have q25 := h.att 6 rfl (pre_of hp 11 rfl)
      have z := h.ext.cell (show w2.drew.cell? _ = _ from c3)
      exact h.yield hok hd1 hfi rfl rfl 26 rfl (by change 26 < 66; decide) rfl _ rfl (by go_simp)
    case o13 =>
      intro f a u h hfi hp hq
      exact h.app hok hd1 hfi rfl rfl 27 rfl (by change 27 < 66; decide) rfl 24 (.tmp 26) 23 rfl 10 14 3 (.int .i64 0) 8 0 D [] (iv n.kids) [] rfl rfl (by intro e he; simp only [List.mem_singleton] at he; subst he; exact pre_of hp 10 rfl)
        Try.underlying23 int_info rfl da dc (h.at_ 7 rfl (pre_of hp 12 rfl)) (by rw [iv_len, Hh.out.hd]) (Hh.out.cd.ext ((hx0.trans (hy2.trans ((Ext.refl w2).drew))).trans h.ext)) (iv_one _) (by simp only [maxLen]; omega) (by omega)
    case o14 =>
      intro f a u h hfi hp hq
      have r1 := h.led.rows (entRow w2.drew.heap.size 5 14 19 9 1 (0 + K) ([] ++ sv n.keys)) (List.mem_cons_of_mem _ (List.mem_cons_self ..)) ⟨pre_of hp 5 rfl, hfi⟩
      have r2 := h.led.rows (entRow w2.drew.heap.size 9 14 23 9 1 (0 + V) ([] ++ sv n.vals)) (List.mem_cons_of_mem _ (List.mem_cons_of_mem _ (List.mem_cons_of_mem _ (List.mem_cons_self ..)))) ⟨pre_of hp 9 rfl, hfi⟩
      have r3 := h.led.rows (entRow w2.drew.heap.size 13 14 27 3 1 (0 + D) ([] ++ iv n.kids)) (List.mem_cons_of_mem _ (List.mem_cons_of_mem _ (List.mem_cons_of_mem _ (List.mem_cons_of_mem _ (List.mem_cons_of_mem _ (List.mem_cons_self ..)))))) ⟨pre_of hp 13 rfl, hfi⟩
      have p5 := pre_of hp 5 rfl
      have p9 := pre_of hp 9 rfl
      have p13 := pre_of hp 13 rfl
      obtain ⟨A5, k5, e5, _, _, _⟩ := own_form r1 (by decide)
      obtain ⟨A6, k6, e6, _, _, _⟩ := own_form r2 (by decide)
      obtain ⟨A7, k7, e7, _, _, _⟩ := own_form r3 (by decide)
      have r1' : u.ownsRow w2.drew.heap.size 9 1 (a.eval (.tmp 19)) (0 + K) ([] ++ sv n.keys) := r1
      have r2' : u.ownsRow w2.drew.heap.size 9 1 (a.eval (.tmp 23)) (0 + V) ([] ++ sv n.vals) := r2
      have r3' : u.ownsRow w2.drew.heap.size 3 1 (a.eval (.tmp 27)) (0 + D) ([] ++ iv n.kids) := r3
      have e5' : a.eval (.tmp 19) = _ := e5
      have e6' : a.eval (.tmp 23) = _ := e6
      have e7' : a.eval (.tmp 27) = _ := e7
      have e15 := h.at_ 1 rfl (pre_of hp 1 rfl)
      rw [e5'] at r1'
      rw [e6'] at r2'
      rw [e7'] at r3'
      refine h.agg hok hd1 hfi rfl rfl 28 rfl (by change 28 < 66; decide) rfl 16 _ [entRow w2.drew.heap.size 5 14 19 9 1 (0 + K) ([] ++ sv n.keys), entRow w2.drew.heap.size 9 14 23 9 1 (0 + V) ([] ++ sv n.vals), entRow w2.drew.heap.size 13 14 27 3 1 (0 + D) ([] ++ iv n.kids)] rfl rfl (by intro e he; simp only [List.mem_cons, List.not_mem_nil, or_false] at he; rcases he with rfl | rfl | rfl; exact p5; exact p9; exact p13)
        #[.bool l, .slice A5 (0 + K) k5, .slice A6 (0 + V) k6, .slice A7 (0 + D) k7] ⟨rfl, r1', r2', r3', trivial⟩ ?_ (s := Instr.build 25 #[(0, .bool l), (1, .slice A5 (0 + K) k5), (2, .slice A6 (0 + V) k6), (3, .slice A7 (0 + D) k7)]) (exec_build rfl (by rw [arr4]; simp only [e15, e5', e6', e7'])) (build_node4 _ _ _ _ _ _ _ _ _ _ _)
      intro k hk
      have hk : k ∈ (Value.slice A5 (0 + K) k5).ownBlock.toList ++ ((Value.slice A6 (0 + V) k6).ownBlock.toList ++ ((Value.slice A7 (0 + D) k7).ownBlock.toList ++ [])) := hk
      rw [List.append_nil] at hk
      rcases List.mem_append.1 hk with hk | hk
      · refine ⟨_, List.mem_cons_self .., ?_⟩
        show k ∈ (a.eval (.tmp 19)).ownBlock.toList
        rw [e5']; exact hk
      rcases List.mem_append.1 hk with hk | hk
      · refine ⟨_, List.mem_cons_of_mem _ (List.mem_cons_self ..), ?_⟩
        show k ∈ (a.eval (.tmp 23)).ownBlock.toList
        rw [e6']; exact hk
      · refine ⟨_, List.mem_cons_of_mem _ (List.mem_cons_of_mem _ (List.mem_cons_self ..)), ?_⟩
        show k ∈ (a.eval (.tmp 27)).ownBlock.toList
        rw [e7']; exact hk
    case o15 =>
      intro f a u h hfi hp hq
      exact h.alloc hok hd1 hfi rfl rfl 3 rfl (by change 3 < 66; decide) [16] (by intro j hj; rw [List.mem_singleton] at hj; subst hj; exact hq 16 _ rfl rfl) rfl 16 25 [.bool false, .slice none 0 0, .slice none 0 0, .slice none 0 0] rfl rfl rfl (alloc_node _)
    case o16 =>
      intro f a u h hfi hp hq
      exact h.store hok hd1 hfi rfl rfl rfl rfl 25 3 28 15 14 99 ([.bool false, .slice none 0 0, .slice none 0 0, .slice none 0 0].map .val) [.val (.bool l), .row 9 1 (0 + K) ([] ++ sv n.keys), .row 9 1 (0 + V) ([] ++ sv n.vals), .row 3 1 (0 + D) ([] ++ iv n.kids)] rfl rfl [entAgg w2.drew.heap.size 14 16 28 [.val (.bool l), .row 9 1 (0 + K) ([] ++ sv n.keys), .row 9 1 (0 + V) ([] ++ sv n.vals), .row 3 1 (0 + D) ([] ++ iv n.kids)], entBox w2.drew.heap.size 15 16 3 25 ([.bool false, .slice none 0 0, .slice none 0 0, .slice none 0 0].map .val)] rfl (List.mem_cons_self ..) (List.mem_cons_of_mem _ (List.mem_cons_self ..)) (by intro e he; simp only [List.mem_cons, List.not_mem_nil, or_false] at he; rcases he with rfl | rfl; exact pre_of hp 14 rfl; exact pre_of hp 15 rfl)
        4 rfl rfl (by kernel_rfl) (by intro c hc; simp only [List.mem_cons, List.not_mem_nil, or_false, Fld.val.injEq, reduceCtorEq] at hc; subst hc; rfl) (by decide)
  · intro f a u h hall hfar
    obtain ⟨g3, vs, e3, hg3, hb3, hf3⟩ := h.led.rows (entBox w2.drew.heap.size 16 99 3 25 [.val (.bool l), .row 9 1 (0 + K) ([] ++ sv n.keys), .row 9 1 (0 + V) ([] ++ sv n.vals), .row 3 1 (0 + D) ([] ++ iv n.kids)]) (List.mem_cons_of_mem _ (List.mem_cons_of_mem _ (List.mem_cons_of_mem _ (List.mem_cons_of_mem _ (List.mem_cons_of_mem _ (List.mem_cons_of_mem _ (List.mem_cons_of_mem _ (List.mem_cons_of_mem _ (List.mem_cons_self ..))))))))) ⟨hall 16 (by decide), hfar 99 (by decide)⟩
    obtain ⟨v1, v2, v3, rfl, ho1, ho2, ho3⟩ := flds_node hf3
    rw [Nat.zero_add, List.nil_append] at ho1 ho2 ho3
    obtain ⟨A1, d1, rfl, hd1', hm1, hc1⟩ := own_form ho1 (by decide)
    obtain ⟨A2, d2, rfl, hd2', hm2, hc2⟩ := own_form ho2 (by decide)
    obtain ⟨A3, d3, rfl, hd3', hm3, hc3⟩ := own_form ho3 (by decide)
    have hNm : NdAt u n A1 A2 A3 K V D d1 d2 d3 := ⟨Hh.out.hk, Hh.out.hv, Hh.out.hd, hd1', hd2', hd3', hc1, hc2, hc3, Hh.out.bk, Hh.out.bv_, Hh.out.bd_, Hh.out.sk, Hh.out.sv_, Hh.out.bd⟩
    have hyu : Ext (w.alloc (.cells #[.bool l, .slice ka K kc, .slice va V vc, .slice da D dc] 25)) u := (hy2.trans ((Ext.refl w2).drew)).trans h.ext
    have hxu := hx0.trans hyu
    have hag := h.agree.out
    have e3' : a.eval (.tmp 3) = .pointer (some ⟨g3, 0, none⟩) := e3
    simp only [List.foldl_cons, List.foldl_nil, Act.put, List.setIfInBounds_toArray, List.set_cons_zero, List.set_cons_succ, e3'] at hag
    generalize a.eval (.tmp 14) = x14 at hag
    generalize a.eval (.tmp 15) = x15 at hag
    generalize a.eval (.tmp 16) = x16 at hag
    generalize a.eval (.tmp 17) = x17 at hag
    generalize a.eval (.tmp 18) = x18 at hag
    generalize a.eval (.tmp 19) = x19 at hag
    generalize a.eval (.tmp 20) = x20 at hag
    generalize a.eval (.tmp 21) = x21 at hag
    generalize a.eval (.tmp 22) = x22 at hag
    generalize a.eval (.tmp 23) = x23 at hag
    generalize a.eval (.tmp 24) = x24 at hag
    generalize a.eval (.tmp 25) = x25 at hag
    generalize a.eval (.tmp 26) = x26 at hag
    generalize a.eval (.tmp 27) = x27 at hag
    generalize a.eval (.tmp 28) = x28 at hag
    clear h e3 e3' hall hfar hf3 hok ho1 ho2 ho3 hc1 hc2 hc3 c0 c1 c2 c3
    subst hag
    obtain ⟨c0, c1, c2, c3⟩ := node_cells hb3
    have HNm := Lib.hid hNm
    have Hb3 := Lib.hid hb3
    clear hNm hb3
    have hgw : w.heap.size < w2.drew.heap.size := by have := hy2.size; simp at this; exact this
    go_wp2_with (first
      | (go_at_call 10; ((with_reducible refine (henc A1 A2 A3 d1 d2 d3 _ HNm.out).mono ?_); rintro e w4 ⟨⟨v4, rfl, own4⟩, hx4⟩; obtain ⟨A4, p4, hv4, hl4, hm4, hc4⟩ := Own.form_at own4 hL.out; subst hv4; have lit0 : Own w4.heap.size (w4.alloc (.cells #[] 5)) (.slice (some ⟨w4.heap.size, 0, none⟩) 0 0) [] := Own.lit [] #[] rfl (Nat.le_refl _) (by simp [maxLen])))
      | (at_builtin; refine wpList_append_u8 _ rfl (.tmp 34) (.tmp 35) rfl w4.heap.size (.slice (some ⟨w4.heap.size, 0, none⟩) 0 0) [] rfl lit0 A4 L p4 cs rfl hL.out (hc4.ext ((Ext.refl _).alloc _)) (by simp; omega) (by simp) ?_; intro v6 w6 own6 hg6 _; have hx6 : Ext w4 w6 := lit0.grows ((Ext.refl _).alloc _) hg6; rw [List.nil_append] at own6; obtain ⟨A6, p6, hv6, hl6, hm6, hc6⟩ := Own.form_at own6 hL.out; subst hv6; clear hg6)
      | (go_at_call 15; ((with_reducible refine (hdec A6 p6 _ hc6).mono ?_); rintro e w7 ⟨ka', va', da', K', V', D', kc', vc', dc', rfl, hN7, hx7, hf1, hf2, hf3⟩))
      | (refine wpList_store_blk rfl 25 (.tmp 7) (.tmp 40) rfl rfl w7.heap.size #[.bool l2, .slice ka' K' kc', .slice va' V' vc', .slice da' D' dc'] rfl rfl _ _ (Blk.new_at rfl _ _) rfl (by kernel_rfl) (by simp [Value.oneCell']) ?_; intro w8 hb8 hg8; have hx78 : Ext w7 w8 := ((Ext.refl _).alloc _).grown_ hg8 (by simp); clear hg8))
    have hz7 := hx7.size
    have hz6 := hx6.size
    have hz4 := hx4.size
    have hzu := hyu.size
    have hxu8 : Ext u w8 := hx4.trans (hx6.trans (hx7.trans hx78))
    have own8 := (own6.ext hx7).ext hx78
    have hr6 : ∀ j, (Value.slice A6 L p6).ownBlock = some j → w4.heap.size ≤ j ∧ j < w6.heap.size := fun j hj => own6.lt hj
    clear c0 c1 c2 c3
    go_loopw [44] (fun i wr => ∃ (k : Nat) (qs : List UInt8), k ≤ L ∧ i = .int .i64 k ∧ Hid (qs.length = L) ∧ Own w4.heap.size wr (.slice A6 L p6) qs ∧ w8.grownBy wr (Value.slice A6 L p6).ownBlock) (fun i _ => L - (intOf i).toNat)
    case atStart => exact ⟨0, cs, Nat.zero_le _, rfl, hL, own8, World.grownBy.refl _ _⟩
    case round =>
      obtain ⟨k, qs, hk, rfl, hq, ownr, hgr⟩ := hrel
      by_cases hlt : k < L
      · have hkq : k < qs.length := by rw [hq.out]; exact hlt
        obtain ⟨gc, cc, hv, _, _, _⟩ := ownr.some_ (by omega)
        rw [hq.out] at hv
        cases hv
        have hcell := ownr.cell_at hq.out hkq
        have hfr := ownr.frozen_at hq.out k
        have hset := ownr.set_at hq.out k (qs[k] + 1)
        have hup := u8_up qs[k]
        generalize qs[k] = x at hcell hup hset
        have hp0 : (0 : Int) ≤ (k : Int) := by omega
        have hp1 : (k : Int) < (L : Int) := by omega
        go_wp2
        go_roundw
        case rel => exact ⟨k + 1, qs.set k (x + 1), by omega, by go_num, Lib.hid (by rw [List.length_set, hq.out]), hset.1, hgr.trans hset.2⟩
        case measure => simp [intOf]; omega
      · obtain rfl : k = L := by omega
        have hN1 := HNm.out.grown_old hxu8 hgr (fun j hj => Nat.le_trans hz4 (hr6 j hj).1)
        have hN0 := Hh.out.grown_old (hxu.trans hxu8) hgr (fun j hj => by have := (hr6 j hj).1; have := hxu.size; omega)
        have hb3r := (Hb3.out.ext hxu8).grown hgr (fun e => by have := (hr6 g3 e.symm).1; have := Hb3.out.lt; omega)
        have hb0r := ((Hbox.out.ext hyu).ext hxu8).grown hgr (fun e => by have := (hr6 _ e.symm).1; have := hxu.size; simp at hzu; omega)
        have hxr : Ext w wr := (hxu.trans hxu8).grown_ hgr (fun j hj => by have := (hr6 j hj).1; have := hxu.size; omega)
        rw [← Hgg.out] at hb0r
        obtain ⟨b0, b1, b2, b3⟩ := node_cells hb3r
        obtain ⟨c0, c1, c2, c3⟩ := node_cells hb0r
        rcases hC with ⟨rfl, rfl, rfl⟩ | rfl
        · have hN7r := (hN7.ext hx78).grown hgr (fun x hx e => by have := hf1 x hx; have := (hr6 _ e.symm).2; omega) (fun x hx e => by have := hf2 x hx; have := (hr6 _ e.symm).2; omega) (fun x hx e => by have := hf3 x hx; have := (hr6 _ e.symm).2; omega)
          have hb8r := hb8.grown hgr (fun e => by have := (hr6 _ e.symm).2; omega)
          obtain rfl : K' = K := hN7.hk.symm.trans Hh.out.hk
          obtain rfl : V' = V := hN7.hv.symm.trans Hh.out.hv
          obtain rfl : D' = D := hN7.hd.symm.trans Hh.out.hd
          obtain ⟨f0, f1, f2, f3⟩ := node_cells hb8r
          have Hb8r := Lib.hid hb8r
          have Hb0r := Lib.hid hb0r
          clear hb8r hb0r hb3r
          go_wp2_with (go_at_call 17; first
            | ((with_reducible refine (nsame_eq nd2 l2 A1 A2 A3 ka va da K' V' D' d1 d2 d3 kc vc dc _ hN1 hN0).mono ?_); rintro e w9 ⟨rfl, hx9⟩; clear b0 b1 b2 b3 c0 c1 c2 c3 f0 f1 f2 f3; obtain ⟨c0, c1, c2, c3⟩ := node_cells (Hb0r.out.ext hx9); obtain ⟨f0, f1, f2, f3⟩ := node_cells (Hb8r.out.ext hx9))
            | ((with_reducible refine (nsame_eq nd2 l2 ka' va' da' ka va da K' V' D' kc' vc' dc' kc vc dc _ (hN7r.ext hx9) (hN0.ext hx9)).mono ?_); rintro e w10 ⟨rfl, hx10⟩))
          go_ret
          exact ⟨rfl, (hxr.trans hx9).trans hx10⟩
        · clear hb0r hb3r
          go_wp2_with (go_at_call 17; ((with_reducible refine (nsame_eq n l A1 A2 A3 ka va da K V D d1 d2 d3 kc vc dc _ hN1 hN0).mono ?_); rintro e w9 ⟨rfl, hx9⟩))
          go_ret
          exact ⟨rfl, hxr.trans hx9⟩

theorem leafKeeps_calls (n : Nd) (ka va da : Option Addr) (K V D kc vc dc : Nat) (w : World) (h : NdAt w n ka va da K V D kc vc dc) :
    Calls Try.prog 7 #[nda n.leaf ka K kc va V vc da D dc] w fun e w' => e = .returned (.bool true) ∧ Ext w w' := by
  by_cases h1 : 4096 < n.tot
  · exact keeps_great n n.leaf rfl ka va da K V D kc vc dc w h h1
  have h1' : n.tot ≤ 4096 := by omega
  have hB := bytes_bound h (by omega)
  have hnone : ∀ A c w', Cells w' A (bv []) → Calls Try.prog 15 #[.slice A 0 c] w' fun e w'' => ∃ (ka va da : Option Addr) (K V D kc vc dc : Nat), e = .returned (.tuple #[nda false ka K kc va V vc da D dc, .int .i64 4]) ∧ NdAt w'' ⟨false, [], [], []⟩ ka va da K V D kc vc dc ∧ Ext w' w'' ∧
      (∀ x, ka = some x → w'.heap.size ≤ x.block) ∧ (∀ x, va = some x → w'.heap.size ≤ x.block) ∧ (∀ x, da = some x → w'.heap.size ≤ x.block) := by
    intro A c w' hc
    have hdc := decode_calls A 0 c [] w' hc rfl (by decide)
    rw [dec_nil] at hdc
    exact hdc
  cases hg : n.good with
  | false =>
    refine keeps_main n n.leaf rfl ka va da K V D kc vc dc w h h1' [] 0 (Lib.hid rfl) (by decide) 1 4 false ⟨false, [], [], []⟩ (.inr rfl) (fun A1 A2 A3 d1 d2 d3 w' h' => ?_) hnone
    refine (encode_bad n n.leaf A1 A2 A3 K V D d1 d2 d3 w' h' rfl hg).mono ?_
    rintro e w'' ⟨rfl, hx⟩
    exact ⟨⟨_, rfl, Own.nil _ _⟩, hx⟩
  | true =>
    by_cases h3 : 512 < n.bytes.length
    · refine keeps_main n n.leaf rfl ka va da K V D kc vc dc w h h1' [] 0 (Lib.hid rfl) (by decide) 3 4 false ⟨false, [], [], []⟩ (.inr rfl) (fun A1 A2 A3 d1 d2 d3 w' h' => ?_) hnone
      refine (encode_long n n.leaf A1 A2 A3 K V D d1 d2 d3 w' h' rfl hg hB h3).mono ?_
      rintro e w'' ⟨rfl, hx⟩
      exact ⟨⟨_, rfl, Own.nil _ _⟩, hx⟩
    · refine keeps_main n n.leaf rfl ka va da K V D kc vc dc w h h1' n.bytes n.bytes.length (Lib.hid rfl) (by omega) 0 0 n.leaf n (.inl ⟨rfl, rfl, rfl⟩) (fun A1 A2 A3 d1 d2 d3 w' h' => ?_) (fun A c w' hc => ?_)
      · refine (encode_ok n n.leaf A1 A2 A3 K V D d1 d2 d3 w' h' rfl hg hB h3).mono ?_
        rintro e w'' ⟨⟨v, rfl, ho⟩, hx⟩
        exact ⟨⟨v, rfl, ho⟩, hx⟩
      · have hdc := decode_calls A n.bytes.length c n.bytes w' hc rfl (by omega)
        have h2 := dec_of hg (by omega) []
        rw [List.append_nil] at h2
        rw [h2] at hdc
        exact hdc
end Go.Proofs.Ytmfmpbeempjeoaa
