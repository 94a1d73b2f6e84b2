/- LeafSizes: a leaf with one pair more has just its bytes more, and one for the number of pairs, where that grows: the walk of the law. -/
import Derived.Test.YtmfmpbeempjeoaaLeafSizesPure
import Derived.Test.YtmfmpbeempjeoaaLeafLaw
import Derived.Test.YtmfmpbeempjeoaaLedgerOps
namespace Go.Proofs.Ytmfmpbeempjeoaa
open Go.RowKit
set_option linter.unusedVariables false

theorem sv_length (xs : List ByteArray) : (sv xs).length = xs.length := by simp [sv]
theorem sv_one (xs : List ByteArray) : ∀ u ∈ sv xs, u.oneCell' = true := by
  intro u hu
  obtain ⟨c, _, rfl⟩ := List.mem_map.1 hu
  rfl
theorem lit0_strs (w : World) : (Instr.buildSlice 22 0 #[]).run Try.prog w = .ok (.slice (some ⟨w.heap.size, 0, none⟩) 0 0) (w.alloc (.cells #[] 9)) := by go_simp
theorem lit1_strs (w : World) (s : ByteArray) : (Instr.buildSlice 22 1 #[(0, .string s)]).run Try.prog w = .ok (.slice (some ⟨w.heap.size, 0, none⟩) 1 1) (w.alloc (.cells #[.string s] 9)) := by go_simp
theorem field_node1 (w : World) (g : Nat) : (Instr.fieldAt 25 (.pointer (some ⟨g, 0, none⟩)) 1).run Try.prog w = .ok (.pointer (some ⟨g, 1, none⟩)) w := by go_simp
theorem field_node2 (w : World) (g : Nat) : (Instr.fieldAt 25 (.pointer (some ⟨g, 0, none⟩)) 2).run Try.prog w = .ok (.pointer (some ⟨g, 2, none⟩)) w := by go_simp
theorem load_strs (w : World) (p : Addr) (A : Option Addr) (n c : Nat) (h : w.cell? p = some (.slice A n c)) : (Instr.loadAt 22 (.pointer (some p))).run Try.prog w = .ok (.slice A n c) w := by go_simp
theorem alloc_node (w : World) : (Instr.alloc 25 true (.tuple #[])).run Try.prog w = .ok (.pointer (some ⟨w.heap.size, 0, none⟩)) (w.alloc (.cells #[.bool false, .slice none 0 0, .slice none 0 0, .slice none 0 0] 25)) := by go_simp
theorem build_leaf (w : World) (A B : Option Addr) (n c m d : Nat) : (Instr.build 25 #[(0, .bool true), (1, .slice A n c), (2, .slice B m d)]).run Try.prog w = .ok (.agg #[.bool true, .slice A n c, .slice B m d, .slice none 0 0]) w := by go_simp
theorem str_info : (Try.prog.info? 9).map (fun i => (i.zero, i.size, i.bytes)) = some (some (.string ByteArray.empty), 1, 16) := by kernel_rfl

/-- What the region's slots own. -/
def szE (B K V : Nat) (xs ys : List Value) (key val : ByteArray) : List Ent :=
  [entRow B 0 3 32 9 1 0 [], entRow B 3 6 35 9 1 (0 + K) ([] ++ xs), entRow B 5 6 37 9 1 1 [.string key], entRow B 6 14 38 9 1 (0 + K + 1) ([] ++ xs ++ [.string key]),
   entRow B 7 10 39 9 1 0 [], entRow B 10 13 42 9 1 (0 + V) ([] ++ ys), entRow B 12 13 44 9 1 1 [.string val], entRow B 13 14 45 9 1 (0 + V + 1) ([] ++ ys ++ [.string val]),
   entAgg B 14 16 46 [.val (.bool true), .row 9 1 (0 + K + 1) ([] ++ xs ++ [.string key]), .row 9 1 (0 + V + 1) ([] ++ ys ++ [.string val]), .val (.slice none 0 0)],
   entBox B 15 16 7 25 ([.bool false, .slice none 0 0, .slice none 0 0, .slice none 0 0].map .val),
   entBox B 16 99 7 25 [.val (.bool true), .row 9 1 (0 + K + 1) ([] ++ xs ++ [.string key]), .row 9 1 (0 + V + 1) ([] ++ ys ++ [.string val]), .val (.slice none 0 0)]]
theorem szE_ok (B K V : Nat) (xs ys : List Value) (key val : ByteArray) : ∀ e ∈ szE B K V xs ys key val, e.OK B := by
  intro e he
  simp only [szE, List.mem_cons, List.not_mem_nil, or_false] at he
  rcases he with rfl | rfl | rfl | rfl | rfl | rfl | rfl | rfl | rfl | rfl | rfl
  all_goals first | exact entRow_ok .. | exact entAgg_ok .. | exact entBox_ok ..
/-- What the others yield. -/
def szP (g K kc V vc : Nat) (ka va : Option Addr) (key val : ByteArray) : List (Nat × Nat × Value) :=
  [(1, 33, .pointer (some ⟨g, 1, none⟩)), (2, 34, .slice ka K kc), (4, 36, .string key), (8, 40, .pointer (some ⟨g, 2, none⟩)), (9, 41, .slice va V vc), (11, 43, .string val)]

theorem flds_leaf {B : Nat} {w : World} {vs : Array Value} {a d : Value} {t : TypeId} {n m : Nat} {xs ys : List Value} (h : fldsOK B w [.val a, .row t 1 n xs, .row t 1 m ys, .val d] vs.toList) :
    ∃ v1 v2, vs = #[a, v1, v2, d] ∧ w.ownsRow B t 1 v1 n xs ∧ w.ownsRow B t 1 v2 m ys := by
  obtain ⟨l⟩ := vs
  match l, h with
  | [v0, v1, v2, v3], ⟨h0, h1, h2, h3, _⟩ =>
    have h0 : v0 = a := h0
    have h3 : v3 = d := h3
    subst h0 h3
    exact ⟨v1, v2, rfl, h1, h2⟩

theorem ksum_append (xs : List ByteArray) (s : ByteArray) : ksum (xs ++ [s]) = ksum xs + 1 + s.size := by unfold ksum; simp; omega
theorem more_tot (n : Nd) (key val : ByteArray) : (n.more key val).tot = ksum n.keys + ksum n.vals + 2 + key.size + val.size := by
  show [].length + ksum (n.keys ++ [key]) + ksum (n.vals ++ [val]) = _
  rw [ksum_append, ksum_append]
  simp
  omega

set_option maxRecDepth 50000 in
set_option maxHeartbeats 4000000 in
theorem sizes_main (n : Nd) (key val : ByteArray) (ka va da : Option Addr) (K V D kc vc dc : Nat) (w : World) (h : NdAt w n ka va da K V D kc vc dc) (ht : n.tot ≤ 1024) (hs : key.size + val.size ≤ 1024) (hl : n.leaf = true) (hg : n.good = true) :
    Calls Try.prog 4 #[nda true ka K kc va V vc da D dc, .string key, .string val] w fun e w' => e = .returned (.bool true) ∧ Ext w w' := by
  have htot : decide (1024 < n.tot) = false := decide_eq_false (by omega)
  have HB := Lib.hid (bytes_bound h (by omega))
  have hs1 : ¬ (1024 : Int) < (key.size : Int) + (val.size : Int) := by omega
  have hs2 : (9223372036854775807 < key.size + val.size) = False := by simp only [eq_iff_iff, iff_false, Nat.not_lt]; omega
  have hsk : key.size ≤ 1024 := by omega
  have hsv : val.size ≤ 1024 := by omega
  have Hh := Lib.hid h
  clear h
  go_enter Try.func4, Try.ntmps4
  have hbox : Blk (w.alloc (.cells #[.bool true, .slice ka K kc, .slice va V vc, .slice da D dc] 25)) w.heap.size 25 #[.bool true, .slice ka K kc, .slice va V vc, .slice da D dc] := Blk.new w _ _
  have hx0 : Ext w (w.alloc (.cells #[.bool true, .slice ka K kc, .slice va V vc, .slice da D dc] 25)) := (Ext.refl _).alloc _
  have Hbox := Lib.hid hbox
  clear hbox
  go_wp2_with (first
    | (go_at_call 8; ((with_reducible refine (leaf_alive _).mono ?_); rintro e w1 ⟨rfl, hx1⟩; have hy1 := hx1; obtain ⟨c0, c1, c2, c3⟩ := node_cells (Hbox.out.ext hy1)))
    | (go_at_call 9; ((with_reducible refine (great_calls n true 1024 1024 rfl ka va da K V D kc vc dc _ (Hh.out.ext (hx0.trans hy1)) (by decide)).mono ?_); rintro e w2 ⟨rfl, hx2⟩; have hy2 := hy1.trans hx2; clear c0 c1 c2 c3; obtain ⟨c0, c1, c2, c3⟩ := node_cells (Hbox.out.ext hy2); rw [htot]))
    | (go_at_call 12; ((with_reducible refine (good_calls_l n true hl ka va da K V D kc vc dc _ (Hh.out.ext (hx0.trans hy2))).mono ?_); rintro e w3 ⟨rfl, hx3⟩; have hy3 := hy2.trans hx3; clear c0 c1 c2 c3; obtain ⟨c0, c1, c2, c3⟩ := node_cells (Hbox.out.ext hy3); rw [hg])))
  have hxw : Ext w w3 := hx0.trans hy3
  have hKt : K ≤ 1024 ∧ V ≤ 1024 := by
    have h1 := ksum_len n.keys
    have h2 := ksum_len n.vals
    rw [Hh.out.hk] at h1
    rw [Hh.out.hv] at h2
    unfold Nd.tot at ht
    omega
  obtain ⟨hKt, hVt⟩ := hKt
  obtain ⟨g, hgg⟩ : ∃ g, g = w.heap.size := ⟨_, rfl⟩
  rw [← hgg] at c0 c1 c2 c3 ⊢
  have hd1 : diesTab (szE w3.drew.heap.size K V (sv n.keys) (sv n.vals) key val) = true := rfl
  have hok := szE_ok w3.drew.heap.size K V (sv n.keys) (sv n.vals) key val
  refine wp_region_ops (RInv [32, 33, 34, 35, 36, 37, 38, 39, 40, 41, 42, 43, 44, 45, 46, 7] _ w3.drew (szP g K kc V vc ka va key val) (szE w3.drew.heap.size K V (sv n.keys) (sv n.vals) key val)) (by kernel_rfl) (by kernel_rfl) RInv.start ?_ ?_
  · refine ⟨?o0, ?o1, ?o2, ?o3, ?o4, ?o5, ?o6, ?o7, ?o8, ?o9, ?o10, ?o11, ?o12, ?o13, ?o14, ?o15, ?o16, trivial⟩
    case o0 =>
      intro f a u h hfi hp hq
      exact h.lit hok hd1 hfi rfl rfl 32 rfl (by change 32 < 76; decide) rfl 3 9 0 #[] rfl rfl rfl (by decide) (exec_buildSlice rfl (arr0 _)) (lit0_strs _)
    case o1 =>
      intro f a u h hfi hp hq
      exact h.value hok hd1 hfi rfl rfl 33 rfl (by change 33 < 76; decide) rfl _ rfl rfl (by rw [show a.eval (.tmp 3) = _ from h.agree.eval (by decide)]; exact field_node1 _ _)
    case o2 =>
      intro f a u h hfi hp hq
      exact h.value hok hd1 hfi rfl rfl 34 rfl (by change 34 < 76; decide) rfl _ rfl rfl (by rw [h.at_ 0 rfl (pre_of hp 1 rfl)]; exact load_strs _ _ _ _ _ (h.ext.cell c1))
    case o3 =>
      intro f a u h hfi hp hq
      exact h.app hok hd1 hfi rfl rfl 35 rfl (by change 35 < 76; decide) rfl 32 (.tmp 34) 22 rfl 0 6 9 (.string ByteArray.empty) 16 0 K [] (sv n.keys) [] rfl rfl (by intro e he; simp only [List.mem_singleton] at he; subst he; exact pre_of hp 0 rfl)
        Try.underlying22 str_info rfl ka kc (h.at_ 1 rfl (pre_of hp 2 rfl)) (by rw [sv_length, Hh.out.hk]) (Hh.out.ck.ext (hxw.drew.trans h.ext)) (sv_one _) (by simp only [maxLen]; omega) (by omega)
    case o4 =>
      intro f a u h hfi hp hq
      exact h.move hok hd1 hfi rfl rfl 36 rfl (by change 36 < 76; decide) rfl _ rfl (.tmp 1) rfl (h.agree.eval (by decide))
    case o5 =>
      intro f a u h hfi hp hq
      have h5 := h.at_ 2 rfl (pre_of hp 4 rfl)
      exact h.lit hok hd1 hfi rfl rfl 37 rfl (by change 37 < 76; decide) rfl 6 9 1 #[.string key] rfl rfl rfl (by decide) (exec_buildSlice rfl (by rw [arr1]; simp only [h5])) (lit1_strs _ _)
    case o6 =>
      intro f a u h hfi hp hq
      have p3 := pre_of hp 3 rfl
      have p5 := pre_of hp 5 rfl
      have r5 := h.led.rows (entRow w3.drew.heap.size 5 6 37 9 1 1 [.string key]) (by simp [szE]) ⟨p5, hfi⟩
      obtain ⟨A5, c5, e5, _, _, hc5⟩ := own_form r5 (by decide)
      exact h.app hok hd1 hfi rfl rfl 38 rfl (by change 38 < 76; decide) rfl 35 (.tmp 37) 22 rfl 3 14 9 (.string ByteArray.empty) 16 (0 + K) 1 ([] ++ sv n.keys) [.string key] [entRow w3.drew.heap.size 5 6 37 9 1 1 [.string key]] rfl rfl (by intro e he; simp only [List.mem_cons, List.not_mem_nil, or_false] at he; rcases he with rfl | rfl; exact p3; exact p5)
        Try.underlying22 str_info rfl A5 c5 e5 rfl hc5 (by intro u hu; simp only [List.mem_singleton] at hu; subst hu; rfl) (by simp only [maxLen]; omega) (by omega)
    case o7 =>
      intro f a u h hfi hp hq
      exact h.lit hok hd1 hfi rfl rfl 39 rfl (by change 39 < 76; decide) rfl 10 9 0 #[] rfl rfl rfl (by decide) (exec_buildSlice rfl (arr0 _)) (lit0_strs _)
    case o8 =>
      intro f a u h hfi hp hq
      exact h.value hok hd1 hfi rfl rfl 40 rfl (by change 40 < 76; decide) rfl _ rfl rfl (by rw [show a.eval (.tmp 3) = _ from h.agree.eval (by decide)]; exact field_node2 _ _)
    case o9 =>
      intro f a u h hfi hp hq
      exact h.value hok hd1 hfi rfl rfl 41 rfl (by change 41 < 76; decide) rfl _ rfl rfl (by rw [h.at_ 3 rfl (pre_of hp 8 rfl)]; exact load_strs _ _ _ _ _ (h.ext.cell c2))
    case o10 =>
      intro f a u h hfi hp hq
      exact h.app hok hd1 hfi rfl rfl 42 rfl (by change 42 < 76; decide) rfl 39 (.tmp 41) 22 rfl 7 13 9 (.string ByteArray.empty) 16 0 V [] (sv n.vals) [] rfl rfl (by intro e he; simp only [List.mem_singleton] at he; subst he; exact pre_of hp 7 rfl)
        Try.underlying22 str_info rfl va vc (h.at_ 4 rfl (pre_of hp 9 rfl)) (by rw [sv_length, Hh.out.hv]) (Hh.out.cv.ext (hxw.drew.trans h.ext)) (sv_one _) (by simp only [maxLen]; omega) (by omega)
    case o11 =>
      intro f a u h hfi hp hq
      exact h.move hok hd1 hfi rfl rfl 43 rfl (by change 43 < 76; decide) rfl _ rfl (.tmp 2) rfl (h.agree.eval (by decide))
    case o12 =>
      intro f a u h hfi hp hq
      have h12 := h.at_ 5 rfl (pre_of hp 11 rfl)
      exact h.lit hok hd1 hfi rfl rfl 44 rfl (by change 44 < 76; decide) rfl 13 9 1 #[.string val] rfl rfl rfl (by decide) (exec_buildSlice rfl (by rw [arr1]; simp only [h12])) (lit1_strs _ _)
    case o13 =>
      intro f a u h hfi hp hq
      have p10 := pre_of hp 10 rfl
      have p12 := pre_of hp 12 rfl
      have r12 := h.led.rows (entRow w3.drew.heap.size 12 13 44 9 1 1 [.string val]) (by simp [szE]) ⟨p12, hfi⟩
      obtain ⟨A5, c5, e5, _, _, hc5⟩ := own_form r12 (by decide)
      exact h.app hok hd1 hfi rfl rfl 45 rfl (by change 45 < 76; decide) rfl 42 (.tmp 44) 22 rfl 10 14 9 (.string ByteArray.empty) 16 (0 + V) 1 ([] ++ sv n.vals) [.string val] [entRow w3.drew.heap.size 12 13 44 9 1 1 [.string val]] rfl rfl (by intro e he; simp only [List.mem_cons, List.not_mem_nil, or_false] at he; rcases he with rfl | rfl; exact p10; exact p12)
        Try.underlying22 str_info rfl A5 c5 e5 rfl hc5 (by intro u hu; simp only [List.mem_singleton] at hu; subst hu; rfl) (by simp only [maxLen]; omega) (by omega)
    case o14 =>
      intro f a u h hfi hp hq
      have p6 := pre_of hp 6 rfl
      have p13 := pre_of hp 13 rfl
      have r6 := h.led.rows (entRow w3.drew.heap.size 6 14 38 9 1 (0 + K + 1) ([] ++ sv n.keys ++ [.string key])) (by simp [szE]) ⟨p6, hfi⟩
      have r13 := h.led.rows (entRow w3.drew.heap.size 13 14 45 9 1 (0 + V + 1) ([] ++ sv n.vals ++ [.string val])) (by simp [szE]) ⟨p13, hfi⟩
      obtain ⟨A5, c5, e5, _, _, hc5⟩ := own_form r6 (by decide)
      obtain ⟨A6, c6, e6, _, _, hc6⟩ := own_form r13 (by decide)
      have r6' : u.ownsRow w3.drew.heap.size 9 1 (a.eval (.tmp 38)) (0 + K + 1) ([] ++ sv n.keys ++ [.string key]) := r6
      have r13' : u.ownsRow w3.drew.heap.size 9 1 (a.eval (.tmp 45)) (0 + V + 1) ([] ++ sv n.vals ++ [.string val]) := r13
      have e5' : a.eval (.tmp 38) = _ := e5
      have e6' : a.eval (.tmp 45) = _ := e6
      rw [e5'] at r6'
      rw [e6'] at r13'
      refine h.agg hok hd1 hfi rfl rfl 46 rfl (by change 46 < 76; decide) rfl 16 _ [entRow w3.drew.heap.size 6 14 38 9 1 (0 + K + 1) ([] ++ sv n.keys ++ [.string key]), entRow w3.drew.heap.size 13 14 45 9 1 (0 + V + 1) ([] ++ sv n.vals ++ [.string val])] rfl rfl (by intro e he; simp only [List.mem_cons, List.not_mem_nil, or_false] at he; rcases he with rfl | rfl; exact p6; exact p13)
        #[.bool true, .slice A5 (0 + K + 1) c5, .slice A6 (0 + V + 1) c6, .slice none 0 0] ⟨rfl, r6', r13', rfl, trivial⟩ ?_ (s := Instr.build 25 #[(0, .bool true), (1, .slice A5 (0 + K + 1) c5), (2, .slice A6 (0 + V + 1) c6)]) (exec_build rfl (by rw [arr3]; simp only [e5', e6']; rfl)) (build_leaf _ _ _ _ _ _ _)
      intro k hk
      have hk : k ∈ (Value.slice A5 (0 + K + 1) c5).ownBlock.toList ++ ((Value.slice A6 (0 + V + 1) c6).ownBlock.toList ++ []) := hk
      rcases List.mem_append.1 hk with hk | hk
      · refine ⟨_, List.mem_cons_self .., ?_⟩
        show k ∈ (a.eval (.tmp 38)).ownBlock.toList
        rw [e5']; exact hk
      · rw [List.append_nil] at hk
        refine ⟨_, List.mem_cons_of_mem _ (List.mem_cons_self ..), ?_⟩
        show k ∈ (a.eval (.tmp 45)).ownBlock.toList
        rw [e6']; exact hk
    case o15 =>
      intro f a u h hfi hp hq
      exact h.alloc hok hd1 hfi rfl rfl 7 rfl (by change 7 < 76; decide) [16] (by intro j hj; rw [List.mem_singleton] at hj; subst hj; exact hq 16 _ rfl rfl) rfl 16 25 [.bool false, .slice none 0 0, .slice none 0 0, .slice none 0 0] rfl rfl rfl (alloc_node _)
    case o16 =>
      intro f a u h hfi hp hq
      exact h.store hok hd1 hfi rfl rfl rfl rfl 25 7 46 15 14 99 ([.bool false, .slice none 0 0, .slice none 0 0, .slice none 0 0].map .val) [.val (.bool true), .row 9 1 (0 + K + 1) ([] ++ sv n.keys ++ [.string key]), .row 9 1 (0 + V + 1) ([] ++ sv n.vals ++ [.string val]), .val (.slice none 0 0)] rfl rfl [entAgg w3.drew.heap.size 14 16 46 [.val (.bool true), .row 9 1 (0 + K + 1) ([] ++ sv n.keys ++ [.string key]), .row 9 1 (0 + V + 1) ([] ++ sv n.vals ++ [.string val]), .val (.slice none 0 0)], entBox w3.drew.heap.size 15 16 7 25 ([.bool false, .slice none 0 0, .slice none 0 0, .slice none 0 0].map .val)] rfl (List.mem_cons_self ..) (List.mem_cons_of_mem _ (List.mem_cons_self ..)) (by intro e he; simp only [List.mem_cons, List.not_mem_nil, or_false] at he; rcases he with rfl | rfl; exact pre_of hp 14 rfl; exact pre_of hp 15 rfl)
        4 rfl rfl (by kernel_rfl) (by intro c hc; simp only [List.mem_cons, List.not_mem_nil, or_false, Fld.val.injEq, reduceCtorEq, false_or] at hc; rcases hc with rfl | rfl <;> rfl) (by decide)
  · intro f a u h hall hfar
    obtain ⟨g2, vs, e7, hg2, hb7, hf7⟩ := h.led.rows (entBox w3.drew.heap.size 16 99 7 25 [.val (.bool true), .row 9 1 (0 + K + 1) ([] ++ sv n.keys ++ [.string key]), .row 9 1 (0 + V + 1) ([] ++ sv n.vals ++ [.string val]), .val (.slice none 0 0)]) (by simp [szE]) ⟨hall 16 (by decide), hfar 99 (by decide)⟩
    obtain ⟨v1, v2, rfl, hk7, hv7⟩ := flds_leaf hf7
    obtain ⟨K1, hK1⟩ : ∃ K1, 0 + K + 1 = K1 := ⟨_, rfl⟩
    obtain ⟨V1, hV1⟩ : ∃ V1, 0 + V + 1 = V1 := ⟨_, rfl⟩
    rw [hK1] at hk7
    rw [hV1] at hv7
    obtain ⟨A1, d1, rfl, hd1, hm1, hc1⟩ := own_form hk7 (by decide)
    obtain ⟨A2, d2, rfl, hd2, hm2, hc2⟩ := own_form hv7 (by decide)
    have hxu : Ext w u := hxw.drew.trans h.ext
    have hxu3 : Ext w3 u := ((Ext.refl w3).drew).trans h.ext
    have hag := h.agree.out
    have e7' : a.eval (.tmp 7) = .pointer (some ⟨g2, 0, none⟩) := e7
    simp only [List.foldl_cons, List.foldl_nil, Act.put, List.setIfInBounds_toArray, List.set_cons_zero, List.set_cons_succ, e7'] at hag
    generalize a.eval (.tmp 32) = x32 at hag
    generalize a.eval (.tmp 33) = x33 at hag
    generalize a.eval (.tmp 34) = x34 at hag
    generalize a.eval (.tmp 35) = x35 at hag
    generalize a.eval (.tmp 36) = x36 at hag
    generalize a.eval (.tmp 37) = x37 at hag
    generalize a.eval (.tmp 38) = x38 at hag
    generalize a.eval (.tmp 39) = x39 at hag
    generalize a.eval (.tmp 40) = x40 at hag
    generalize a.eval (.tmp 41) = x41 at hag
    generalize a.eval (.tmp 42) = x42 at hag
    generalize a.eval (.tmp 43) = x43 at hag
    generalize a.eval (.tmp 44) = x44 at hag
    generalize a.eval (.tmp 45) = x45 at hag
    generalize a.eval (.tmp 46) = x46 at hag
    clear h e7 e7' hall hfar hf7 hok
    subst hag
    have hnm : NdAt u (n.more key val) A1 A2 none K1 V1 0 d1 d2 0 := by
      have h0 := Hh.out
      refine ⟨?_, ?_, rfl, hd1, hd2, Nat.le_refl _, ?_, ?_, Cells.nil _ _, by omega, by omega, by omega, ?_, ?_, ?_⟩
      · show (n.keys ++ [key]).length = K1
        rw [List.length_append, h0.hk, List.length_singleton]; omega
      · show (n.vals ++ [val]).length = V1
        rw [List.length_append, h0.hv, List.length_singleton]; omega
      · have : sv (n.more key val).keys = [] ++ sv n.keys ++ [.string key] := by show sv (n.keys ++ [key]) = _; simp [sv]
        rw [this]; exact hc1
      · have : sv (n.more key val).vals = [] ++ sv n.vals ++ [.string val] := by show sv (n.vals ++ [val]) = _; simp [sv]
        rw [this]; exact hc2
      · intro s hs'
        have hs' : s ∈ n.keys ++ [key] := hs'
        rcases List.mem_append.1 hs' with hs' | hs'
        · exact h0.sk s hs'
        · rw [List.mem_singleton] at hs'; subst hs'; omega
      · intro s hs'
        have hs' : s ∈ n.vals ++ [val] := hs'
        rcases List.mem_append.1 hs' with hs' | hs'
        · exact h0.sv_ s hs'
        · rw [List.mem_singleton] at hs'; subst hs'; omega
      · intro p hp
        cases hp
    have Hnm := Lib.hid hnm
    have HMB := Lib.hid (bytes_bound hnm (by rw [more_tot]; unfold Nd.tot at ht; omega))
    have Hb7 := Lib.hid hb7
    obtain ⟨b0, b1, b2, b3⟩ := node_cells hb7
    have hxb := (Hbox.out.ext hy3).ext hxu3
    rw [← hgg] at hxb
    have HbN := Lib.hid hxb
    clear hgg
    clear c0 c1 c2 c3 hnm hb7 hk7 hv7 hc1 hc2 hxb
    obtain ⟨c0, c1, c2, c3⟩ := node_cells HbN.out
    obtain ⟨m, hm⟩ : ∃ m, m = n.more key val := ⟨_, rfl⟩
    cases hmg : m.good with
    | false =>
      have hms : m.size = -1 := by unfold Nd.size; rw [hmg]; rfl
      rw [← hm] at Hnm HMB
      have hml : m.leaf = true := by rw [hm]; rfl
      have HM := Lib.hid hm
      clear hm
      go_wp2_with (first
        | (go_at_call 12; ((with_reducible refine (good_calls_l m true hml A1 A2 none K1 V1 0 d1 d2 0 _ Hnm.out).mono ?_); rintro e w5 ⟨rfl, hx5⟩; clear b0 b1 b2 b3; obtain ⟨b0, b1, b2, b3⟩ := node_cells (Hb7.out.ext hx5); rw [hmg]))
        | (go_at_call 13; ((with_reducible refine (size_calls' m true A1 A2 none K1 V1 0 d1 d2 0 _ (Hnm.out.ext hx5) hml ?_).mono ?_); (case _ => exact HMB.out); rintro e w6 ⟨rfl, hx6⟩; rw [hms])))
      go_ret
      exact ⟨rfl, hxu.trans (hx5.trans hx6)⟩
    | true =>
      have hsz : n.size = (n.bytes.length : Int) := by unfold Nd.size; rw [hg, if_pos rfl]
      have hms : m.size = (m.bytes.length : Int) := by unfold Nd.size; rw [hmg, if_pos rfl]
      rw [hm] at hmg
      have hmore := more_size hl hg hmg (by rw [Hh.out.hk]; exact hKt)
      rw [← hm] at hmore hmg
      rw [hmore, Hh.out.hk] at hms
      obtain ⟨L, hL⟩ : ∃ L, n.bytes.length = L := ⟨_, rfl⟩
      have hLb : L ≤ 1048576 := by rw [← hL]; exact HB.out
      rw [hL] at hsz hms
      rw [← hm] at Hnm HMB
      have hml : m.leaf = true := by rw [hm]; rfl
      have HM := Lib.hid hm
      clear hm hmore hL
      by_cases h63 : K = 63
      · rw [if_pos h63] at hms
        subst h63
        by_cases h127 : 127 < val.size
        · rw [if_pos h127] at hms
          go_wp2_with (go_at_call 12; ((with_reducible refine (good_calls_l m true hml A1 A2 none K1 V1 0 d1 d2 0 _ Hnm.out).mono ?_); rintro e w5 ⟨rfl, hx5⟩; clear b0 b1 b2 b3 c0 c1 c2 c3; obtain ⟨b0, b1, b2, b3⟩ := node_cells (Hb7.out.ext hx5); obtain ⟨c0, c1, c2, c3⟩ := node_cells (HbN.out.ext hx5); rw [hmg]))
          have hok : ∀ e ∈ ([] : List Ent), e.OK w5.drew.heap.size := fun e he => (by cases he)
          have hd1 : diesTab [] = true := rfl
          have hxr : Ext w w5.drew := hxu.trans hx5.drew
          refine wp_region_ops (RInv [60, 61, 62, 63, 64, 65, 66, 67, 68, 69, 70, 71, 72, 73, 74, 75, 6] _ w5.drew [(0, 60, .agg #[.bool true, .slice A1 K1 d1, .slice A2 V1 d2, .slice none 0 0]), (1, 61, .int .i64 ((L : Int) + 2 + key.size + val.size + 1 + 1)), (2, 62, .agg #[.bool true, .slice ka 63 kc, .slice va V vc, .slice da D dc]), (3, 63, .int .i64 (L : Int)), (4, 64, .int .i64 ((L : Int) + 2)), (5, 65, .string key), (6, 66, .int .i64 (key.size : Int)), (7, 67, .int .i64 ((L : Int) + 2 + key.size)), (8, 68, .string val), (9, 69, .int .i64 (val.size : Int)), (10, 70, .int .i64 ((L : Int) + 2 + key.size + val.size)), (11, 71, .int .i64 1), (12, 72, .int .i64 ((L : Int) + 2 + key.size + val.size + 1)), (13, 73, .int .i64 1), (14, 74, .int .i64 ((L : Int) + 2 + key.size + val.size + 1 + 1)), (15, 75, .bool true), (16, 6, .bool true)] []) (by kernel_rfl) (by kernel_rfl) RInv.start ?_ ?_
          · refine ⟨?o0, ?o1, ?o2, ?o3, ?o4, ?o5, ?o6, ?o7, ?o8, ?o9, ?o10, ?o11, ?o12, ?o13, ?o14, ?o15, ?o16, trivial⟩
            case o0 =>
              intro f a u h hfi hp hq
              have q7 : a.tmps[7]?.getD undef = .pointer (some ⟨g2, 0, none⟩) := h.agree.att (by decide)
              have z0 := h.ext.cell (show w5.drew.cell? _ = _ from b0); have z1 := h.ext.cell (show w5.drew.cell? _ = _ from b1); have z2 := h.ext.cell (show w5.drew.cell? _ = _ from b2); have z3 := h.ext.cell (show w5.drew.cell? _ = _ from b3)
              exact h.yield hok hd1 hfi rfl rfl 60 rfl (by change 60 < 76; decide) rfl _ rfl (by go_simp <;> (rw [IntKind.wrap_i64]; omega))
            case o1 =>
              intro f a u h hfi hp hq
              exact h.call hok hd1 hfi rfl rfl 61 rfl (by change 61 < 76; decide) rfl _ rfl 13 #[.tmp 60] #[25] _ rfl (by kernel_rfl) (by rw [arr1, h.at_ 0 rfl (pre_of hp 0 rfl)]) (by have c := size_calls' m true A1 A2 none K1 V1 0 d1 d2 0 u (Hnm.out.ext (hx5.drew.trans h.ext)) hml HMB.out; rw [hms] at c; exact c)
            case o2 =>
              intro f a u h hfi hp hq
              have q3 : a.tmps[3]?.getD undef = .pointer (some ⟨g, 0, none⟩) := h.agree.att (by decide)
              have z0 := h.ext.cell (show w5.drew.cell? _ = _ from c0); have z1 := h.ext.cell (show w5.drew.cell? _ = _ from c1); have z2 := h.ext.cell (show w5.drew.cell? _ = _ from c2); have z3 := h.ext.cell (show w5.drew.cell? _ = _ from c3)
              exact h.yield hok hd1 hfi rfl rfl 62 rfl (by change 62 < 76; decide) rfl _ rfl (by go_simp <;> (rw [IntKind.wrap_i64]; omega))
            case o3 =>
              intro f a u h hfi hp hq
              exact h.call hok hd1 hfi rfl rfl 63 rfl (by change 63 < 76; decide) rfl _ rfl 13 #[.tmp 62] #[25] _ rfl (by kernel_rfl) (by rw [arr1, h.at_ 2 rfl (pre_of hp 2 rfl)]) (by have c := size_calls' n true ka va da 63 V D kc vc dc u (Hh.out.ext (hxr.trans h.ext)) hl HB.out; rw [hsz] at c; exact c)
            case o4 =>
              intro f a u h hfi hp hq
              have q63 := h.att 3 rfl (pre_of hp 3 rfl)
              exact h.yield hok hd1 hfi rfl rfl 64 rfl (by change 64 < 76; decide) rfl _ rfl (by go_simp <;> (rw [IntKind.wrap_i64]; omega))
            case o5 =>
              intro f a u h hfi hp hq
              have q1 : a.tmps[1]?.getD undef = .string key := h.agree.att (by decide)
              exact h.yield hok hd1 hfi rfl rfl 65 rfl (by change 65 < 76; decide) rfl _ rfl (by go_simp <;> (rw [IntKind.wrap_i64]; omega))
            case o6 =>
              intro f a u h hfi hp hq
              have q65 := h.att 5 rfl (pre_of hp 5 rfl)
              exact h.yield hok hd1 hfi rfl rfl 66 rfl (by change 66 < 76; decide) rfl _ rfl (by go_simp <;> (rw [IntKind.wrap_i64]; omega))
            case o7 =>
              intro f a u h hfi hp hq
              have q64 := h.att 4 rfl (pre_of hp 4 rfl)
              have q66 := h.att 6 rfl (pre_of hp 6 rfl)
              exact h.yield hok hd1 hfi rfl rfl 67 rfl (by change 67 < 76; decide) rfl _ rfl (by go_simp <;> (rw [IntKind.wrap_i64]; omega))
            case o8 =>
              intro f a u h hfi hp hq
              have q2 : a.tmps[2]?.getD undef = .string val := h.agree.att (by decide)
              exact h.yield hok hd1 hfi rfl rfl 68 rfl (by change 68 < 76; decide) rfl _ rfl (by go_simp <;> (rw [IntKind.wrap_i64]; omega))
            case o9 =>
              intro f a u h hfi hp hq
              have q68 := h.att 8 rfl (pre_of hp 8 rfl)
              exact h.yield hok hd1 hfi rfl rfl 69 rfl (by change 69 < 76; decide) rfl _ rfl (by go_simp <;> (rw [IntKind.wrap_i64]; omega))
            case o10 =>
              intro f a u h hfi hp hq
              have q67 := h.att 7 rfl (pre_of hp 7 rfl)
              have q69 := h.att 9 rfl (pre_of hp 9 rfl)
              exact h.yield hok hd1 hfi rfl rfl 70 rfl (by change 70 < 76; decide) rfl _ rfl (by go_simp <;> (rw [IntKind.wrap_i64]; omega))
            case o11 =>
              intro f a u h hfi hp hq
              have q8 : a.tmps[8]?.getD undef = .int .i64 1 := h.agree.att (by decide)
              exact h.yield hok hd1 hfi rfl rfl 71 rfl (by change 71 < 76; decide) rfl _ rfl (by go_simp <;> (rw [IntKind.wrap_i64]; omega))
            case o12 =>
              intro f a u h hfi hp hq
              have q70 := h.att 10 rfl (pre_of hp 10 rfl)
              have q71 := h.att 11 rfl (pre_of hp 11 rfl)
              exact h.yield hok hd1 hfi rfl rfl 72 rfl (by change 72 < 76; decide) rfl _ rfl (by go_simp <;> (rw [IntKind.wrap_i64]; omega))
            case o13 =>
              intro f a u h hfi hp hq
              have q9 : a.tmps[9]?.getD undef = .int .i64 1 := h.agree.att (by decide)
              exact h.yield hok hd1 hfi rfl rfl 73 rfl (by change 73 < 76; decide) rfl _ rfl (by go_simp <;> (rw [IntKind.wrap_i64]; omega))
            case o14 =>
              intro f a u h hfi hp hq
              have q72 := h.att 12 rfl (pre_of hp 12 rfl)
              have q73 := h.att 13 rfl (pre_of hp 13 rfl)
              exact h.yield hok hd1 hfi rfl rfl 74 rfl (by change 74 < 76; decide) rfl _ rfl (by go_simp <;> (rw [IntKind.wrap_i64]; omega))
            case o15 =>
              intro f a u h hfi hp hq
              have q61 := h.att 1 rfl (pre_of hp 1 rfl)
              have q74 := h.att 14 rfl (pre_of hp 14 rfl)
              exact h.yield hok hd1 hfi rfl rfl 75 rfl (by change 75 < 76; decide) rfl _ rfl (by go_simp <;> (rw [IntKind.wrap_i64]; omega))
            case o16 =>
              intro f a u h hfi hp hq
              have q75 := h.att 15 rfl (pre_of hp 15 rfl)
              exact h.yield hok hd1 hfi rfl rfl 6 rfl (by change 6 < 76; decide) rfl _ rfl (by go_simp <;> (rw [IntKind.wrap_i64]; omega))
          · intro f a u h hall hfar
            have hag := h.agree.out
            have e6 := h.at_ 16 rfl (hall 16 (by decide))
            have hxe := hxr.trans h.ext
            simp only [List.foldl_cons, List.foldl_nil, Act.put, List.setIfInBounds_toArray, List.set_cons_zero, List.set_cons_succ, e6] at hag
            generalize a.eval (.tmp 60) = y60 at hag
            generalize a.eval (.tmp 61) = y61 at hag
            generalize a.eval (.tmp 62) = y62 at hag
            generalize a.eval (.tmp 63) = y63 at hag
            generalize a.eval (.tmp 64) = y64 at hag
            generalize a.eval (.tmp 65) = y65 at hag
            generalize a.eval (.tmp 66) = y66 at hag
            generalize a.eval (.tmp 67) = y67 at hag
            generalize a.eval (.tmp 68) = y68 at hag
            generalize a.eval (.tmp 69) = y69 at hag
            generalize a.eval (.tmp 70) = y70 at hag
            generalize a.eval (.tmp 71) = y71 at hag
            generalize a.eval (.tmp 72) = y72 at hag
            generalize a.eval (.tmp 73) = y73 at hag
            generalize a.eval (.tmp 74) = y74 at hag
            generalize a.eval (.tmp 75) = y75 at hag
            clear h e6 hall hfar hok
            subst hag
            go_wp2
            go_ret
            exact ⟨rfl, hxe⟩
        · rw [if_neg h127] at hms
          go_wp2_with (go_at_call 12; ((with_reducible refine (good_calls_l m true hml A1 A2 none K1 V1 0 d1 d2 0 _ Hnm.out).mono ?_); rintro e w5 ⟨rfl, hx5⟩; clear b0 b1 b2 b3 c0 c1 c2 c3; obtain ⟨b0, b1, b2, b3⟩ := node_cells (Hb7.out.ext hx5); obtain ⟨c0, c1, c2, c3⟩ := node_cells (HbN.out.ext hx5); rw [hmg]))
          have hok : ∀ e ∈ ([] : List Ent), e.OK w5.drew.heap.size := fun e he => (by cases he)
          have hd1 : diesTab [] = true := rfl
          have hxr : Ext w w5.drew := hxu.trans hx5.drew
          refine wp_region_ops (RInv [60, 61, 62, 63, 64, 65, 66, 67, 68, 69, 70, 71, 72, 73, 74, 75, 6] _ w5.drew [(0, 60, .agg #[.bool true, .slice A1 K1 d1, .slice A2 V1 d2, .slice none 0 0]), (1, 61, .int .i64 ((L : Int) + 2 + key.size + val.size + 1 + 0)), (2, 62, .agg #[.bool true, .slice ka 63 kc, .slice va V vc, .slice da D dc]), (3, 63, .int .i64 (L : Int)), (4, 64, .int .i64 ((L : Int) + 2)), (5, 65, .string key), (6, 66, .int .i64 (key.size : Int)), (7, 67, .int .i64 ((L : Int) + 2 + key.size)), (8, 68, .string val), (9, 69, .int .i64 (val.size : Int)), (10, 70, .int .i64 ((L : Int) + 2 + key.size + val.size)), (11, 71, .int .i64 1), (12, 72, .int .i64 ((L : Int) + 2 + key.size + val.size + 1)), (13, 73, .int .i64 0), (14, 74, .int .i64 ((L : Int) + 2 + key.size + val.size + 1 + 0)), (15, 75, .bool true), (16, 6, .bool true)] []) (by kernel_rfl) (by kernel_rfl) RInv.start ?_ ?_
          · refine ⟨?o0, ?o1, ?o2, ?o3, ?o4, ?o5, ?o6, ?o7, ?o8, ?o9, ?o10, ?o11, ?o12, ?o13, ?o14, ?o15, ?o16, trivial⟩
            case o0 =>
              intro f a u h hfi hp hq
              have q7 : a.tmps[7]?.getD undef = .pointer (some ⟨g2, 0, none⟩) := h.agree.att (by decide)
              have z0 := h.ext.cell (show w5.drew.cell? _ = _ from b0); have z1 := h.ext.cell (show w5.drew.cell? _ = _ from b1); have z2 := h.ext.cell (show w5.drew.cell? _ = _ from b2); have z3 := h.ext.cell (show w5.drew.cell? _ = _ from b3)
              exact h.yield hok hd1 hfi rfl rfl 60 rfl (by change 60 < 76; decide) rfl _ rfl (by go_simp <;> (rw [IntKind.wrap_i64]; omega))
            case o1 =>
              intro f a u h hfi hp hq
              exact h.call hok hd1 hfi rfl rfl 61 rfl (by change 61 < 76; decide) rfl _ rfl 13 #[.tmp 60] #[25] _ rfl (by kernel_rfl) (by rw [arr1, h.at_ 0 rfl (pre_of hp 0 rfl)]) (by have c := size_calls' m true A1 A2 none K1 V1 0 d1 d2 0 u (Hnm.out.ext (hx5.drew.trans h.ext)) hml HMB.out; rw [hms] at c; exact c)
            case o2 =>
              intro f a u h hfi hp hq
              have q3 : a.tmps[3]?.getD undef = .pointer (some ⟨g, 0, none⟩) := h.agree.att (by decide)
              have z0 := h.ext.cell (show w5.drew.cell? _ = _ from c0); have z1 := h.ext.cell (show w5.drew.cell? _ = _ from c1); have z2 := h.ext.cell (show w5.drew.cell? _ = _ from c2); have z3 := h.ext.cell (show w5.drew.cell? _ = _ from c3)
              exact h.yield hok hd1 hfi rfl rfl 62 rfl (by change 62 < 76; decide) rfl _ rfl (by go_simp <;> (rw [IntKind.wrap_i64]; omega))
            case o3 =>
              intro f a u h hfi hp hq
              exact h.call hok hd1 hfi rfl rfl 63 rfl (by change 63 < 76; decide) rfl _ rfl 13 #[.tmp 62] #[25] _ rfl (by kernel_rfl) (by rw [arr1, h.at_ 2 rfl (pre_of hp 2 rfl)]) (by have c := size_calls' n true ka va da 63 V D kc vc dc u (Hh.out.ext (hxr.trans h.ext)) hl HB.out; rw [hsz] at c; exact c)
            case o4 =>
              intro f a u h hfi hp hq
              have q63 := h.att 3 rfl (pre_of hp 3 rfl)
              exact h.yield hok hd1 hfi rfl rfl 64 rfl (by change 64 < 76; decide) rfl _ rfl (by go_simp <;> (rw [IntKind.wrap_i64]; omega))
            case o5 =>
              intro f a u h hfi hp hq
              have q1 : a.tmps[1]?.getD undef = .string key := h.agree.att (by decide)
              exact h.yield hok hd1 hfi rfl rfl 65 rfl (by change 65 < 76; decide) rfl _ rfl (by go_simp <;> (rw [IntKind.wrap_i64]; omega))
            case o6 =>
              intro f a u h hfi hp hq
              have q65 := h.att 5 rfl (pre_of hp 5 rfl)
              exact h.yield hok hd1 hfi rfl rfl 66 rfl (by change 66 < 76; decide) rfl _ rfl (by go_simp <;> (rw [IntKind.wrap_i64]; omega))
            case o7 =>
              intro f a u h hfi hp hq
              have q64 := h.att 4 rfl (pre_of hp 4 rfl)
              have q66 := h.att 6 rfl (pre_of hp 6 rfl)
              exact h.yield hok hd1 hfi rfl rfl 67 rfl (by change 67 < 76; decide) rfl _ rfl (by go_simp <;> (rw [IntKind.wrap_i64]; omega))
            case o8 =>
              intro f a u h hfi hp hq
              have q2 : a.tmps[2]?.getD undef = .string val := h.agree.att (by decide)
              exact h.yield hok hd1 hfi rfl rfl 68 rfl (by change 68 < 76; decide) rfl _ rfl (by go_simp <;> (rw [IntKind.wrap_i64]; omega))
            case o9 =>
              intro f a u h hfi hp hq
              have q68 := h.att 8 rfl (pre_of hp 8 rfl)
              exact h.yield hok hd1 hfi rfl rfl 69 rfl (by change 69 < 76; decide) rfl _ rfl (by go_simp <;> (rw [IntKind.wrap_i64]; omega))
            case o10 =>
              intro f a u h hfi hp hq
              have q67 := h.att 7 rfl (pre_of hp 7 rfl)
              have q69 := h.att 9 rfl (pre_of hp 9 rfl)
              exact h.yield hok hd1 hfi rfl rfl 70 rfl (by change 70 < 76; decide) rfl _ rfl (by go_simp <;> (rw [IntKind.wrap_i64]; omega))
            case o11 =>
              intro f a u h hfi hp hq
              have q8 : a.tmps[8]?.getD undef = .int .i64 1 := h.agree.att (by decide)
              exact h.yield hok hd1 hfi rfl rfl 71 rfl (by change 71 < 76; decide) rfl _ rfl (by go_simp <;> (rw [IntKind.wrap_i64]; omega))
            case o12 =>
              intro f a u h hfi hp hq
              have q70 := h.att 10 rfl (pre_of hp 10 rfl)
              have q71 := h.att 11 rfl (pre_of hp 11 rfl)
              exact h.yield hok hd1 hfi rfl rfl 72 rfl (by change 72 < 76; decide) rfl _ rfl (by go_simp <;> (rw [IntKind.wrap_i64]; omega))
            case o13 =>
              intro f a u h hfi hp hq
              have q9 : a.tmps[9]?.getD undef = .int .i64 0 := h.agree.att (by decide)
              exact h.yield hok hd1 hfi rfl rfl 73 rfl (by change 73 < 76; decide) rfl _ rfl (by go_simp <;> (rw [IntKind.wrap_i64]; omega))
            case o14 =>
              intro f a u h hfi hp hq
              have q72 := h.att 12 rfl (pre_of hp 12 rfl)
              have q73 := h.att 13 rfl (pre_of hp 13 rfl)
              exact h.yield hok hd1 hfi rfl rfl 74 rfl (by change 74 < 76; decide) rfl _ rfl (by go_simp <;> (rw [IntKind.wrap_i64]; omega))
            case o15 =>
              intro f a u h hfi hp hq
              have q61 := h.att 1 rfl (pre_of hp 1 rfl)
              have q74 := h.att 14 rfl (pre_of hp 14 rfl)
              exact h.yield hok hd1 hfi rfl rfl 75 rfl (by change 75 < 76; decide) rfl _ rfl (by go_simp <;> (rw [IntKind.wrap_i64]; omega))
            case o16 =>
              intro f a u h hfi hp hq
              have q75 := h.att 15 rfl (pre_of hp 15 rfl)
              exact h.yield hok hd1 hfi rfl rfl 6 rfl (by change 6 < 76; decide) rfl _ rfl (by go_simp <;> (rw [IntKind.wrap_i64]; omega))
          · intro f a u h hall hfar
            have hag := h.agree.out
            have e6 := h.at_ 16 rfl (hall 16 (by decide))
            have hxe := hxr.trans h.ext
            simp only [List.foldl_cons, List.foldl_nil, Act.put, List.setIfInBounds_toArray, List.set_cons_zero, List.set_cons_succ, e6] at hag
            generalize a.eval (.tmp 60) = y60 at hag
            generalize a.eval (.tmp 61) = y61 at hag
            generalize a.eval (.tmp 62) = y62 at hag
            generalize a.eval (.tmp 63) = y63 at hag
            generalize a.eval (.tmp 64) = y64 at hag
            generalize a.eval (.tmp 65) = y65 at hag
            generalize a.eval (.tmp 66) = y66 at hag
            generalize a.eval (.tmp 67) = y67 at hag
            generalize a.eval (.tmp 68) = y68 at hag
            generalize a.eval (.tmp 69) = y69 at hag
            generalize a.eval (.tmp 70) = y70 at hag
            generalize a.eval (.tmp 71) = y71 at hag
            generalize a.eval (.tmp 72) = y72 at hag
            generalize a.eval (.tmp 73) = y73 at hag
            generalize a.eval (.tmp 74) = y74 at hag
            generalize a.eval (.tmp 75) = y75 at hag
            clear h e6 hall hfar hok
            subst hag
            go_wp2
            go_ret
            exact ⟨rfl, hxe⟩
      · rw [if_neg h63] at hms
        have h63' : ¬ (K : Int) = 63 := by omega
        by_cases h127 : 127 < val.size
        · rw [if_pos h127] at hms
          go_wp2_with (go_at_call 12; ((with_reducible refine (good_calls_l m true hml A1 A2 none K1 V1 0 d1 d2 0 _ Hnm.out).mono ?_); rintro e w5 ⟨rfl, hx5⟩; clear b0 b1 b2 b3 c0 c1 c2 c3; obtain ⟨b0, b1, b2, b3⟩ := node_cells (Hb7.out.ext hx5); obtain ⟨c0, c1, c2, c3⟩ := node_cells (HbN.out.ext hx5); rw [hmg]))
          have hok : ∀ e ∈ ([] : List Ent), e.OK w5.drew.heap.size := fun e he => (by cases he)
          have hd1 : diesTab [] = true := rfl
          have hxr : Ext w w5.drew := hxu.trans hx5.drew
          refine wp_region_ops (RInv [60, 61, 62, 63, 64, 65, 66, 67, 68, 69, 70, 71, 72, 73, 74, 75, 6] _ w5.drew [(0, 60, .agg #[.bool true, .slice A1 K1 d1, .slice A2 V1 d2, .slice none 0 0]), (1, 61, .int .i64 ((L : Int) + 2 + key.size + val.size + 0 + 1)), (2, 62, .agg #[.bool true, .slice ka K kc, .slice va V vc, .slice da D dc]), (3, 63, .int .i64 (L : Int)), (4, 64, .int .i64 ((L : Int) + 2)), (5, 65, .string key), (6, 66, .int .i64 (key.size : Int)), (7, 67, .int .i64 ((L : Int) + 2 + key.size)), (8, 68, .string val), (9, 69, .int .i64 (val.size : Int)), (10, 70, .int .i64 ((L : Int) + 2 + key.size + val.size)), (11, 71, .int .i64 0), (12, 72, .int .i64 ((L : Int) + 2 + key.size + val.size + 0)), (13, 73, .int .i64 1), (14, 74, .int .i64 ((L : Int) + 2 + key.size + val.size + 0 + 1)), (15, 75, .bool true), (16, 6, .bool true)] []) (by kernel_rfl) (by kernel_rfl) RInv.start ?_ ?_
          · refine ⟨?o0, ?o1, ?o2, ?o3, ?o4, ?o5, ?o6, ?o7, ?o8, ?o9, ?o10, ?o11, ?o12, ?o13, ?o14, ?o15, ?o16, trivial⟩
            case o0 =>
              intro f a u h hfi hp hq
              have q7 : a.tmps[7]?.getD undef = .pointer (some ⟨g2, 0, none⟩) := h.agree.att (by decide)
              have z0 := h.ext.cell (show w5.drew.cell? _ = _ from b0); have z1 := h.ext.cell (show w5.drew.cell? _ = _ from b1); have z2 := h.ext.cell (show w5.drew.cell? _ = _ from b2); have z3 := h.ext.cell (show w5.drew.cell? _ = _ from b3)
              exact h.yield hok hd1 hfi rfl rfl 60 rfl (by change 60 < 76; decide) rfl _ rfl (by go_simp <;> (rw [IntKind.wrap_i64]; omega))
            case o1 =>
              intro f a u h hfi hp hq
              exact h.call hok hd1 hfi rfl rfl 61 rfl (by change 61 < 76; decide) rfl _ rfl 13 #[.tmp 60] #[25] _ rfl (by kernel_rfl) (by rw [arr1, h.at_ 0 rfl (pre_of hp 0 rfl)]) (by have c := size_calls' m true A1 A2 none K1 V1 0 d1 d2 0 u (Hnm.out.ext (hx5.drew.trans h.ext)) hml HMB.out; rw [hms] at c; exact c)
            case o2 =>
              intro f a u h hfi hp hq
              have q3 : a.tmps[3]?.getD undef = .pointer (some ⟨g, 0, none⟩) := h.agree.att (by decide)
              have z0 := h.ext.cell (show w5.drew.cell? _ = _ from c0); have z1 := h.ext.cell (show w5.drew.cell? _ = _ from c1); have z2 := h.ext.cell (show w5.drew.cell? _ = _ from c2); have z3 := h.ext.cell (show w5.drew.cell? _ = _ from c3)
              exact h.yield hok hd1 hfi rfl rfl 62 rfl (by change 62 < 76; decide) rfl _ rfl (by go_simp <;> (rw [IntKind.wrap_i64]; omega))
            case o3 =>
              intro f a u h hfi hp hq
              exact h.call hok hd1 hfi rfl rfl 63 rfl (by change 63 < 76; decide) rfl _ rfl 13 #[.tmp 62] #[25] _ rfl (by kernel_rfl) (by rw [arr1, h.at_ 2 rfl (pre_of hp 2 rfl)]) (by have c := size_calls' n true ka va da K V D kc vc dc u (Hh.out.ext (hxr.trans h.ext)) hl HB.out; rw [hsz] at c; exact c)
            case o4 =>
              intro f a u h hfi hp hq
              have q63 := h.att 3 rfl (pre_of hp 3 rfl)
              exact h.yield hok hd1 hfi rfl rfl 64 rfl (by change 64 < 76; decide) rfl _ rfl (by go_simp <;> (rw [IntKind.wrap_i64]; omega))
            case o5 =>
              intro f a u h hfi hp hq
              have q1 : a.tmps[1]?.getD undef = .string key := h.agree.att (by decide)
              exact h.yield hok hd1 hfi rfl rfl 65 rfl (by change 65 < 76; decide) rfl _ rfl (by go_simp <;> (rw [IntKind.wrap_i64]; omega))
            case o6 =>
              intro f a u h hfi hp hq
              have q65 := h.att 5 rfl (pre_of hp 5 rfl)
              exact h.yield hok hd1 hfi rfl rfl 66 rfl (by change 66 < 76; decide) rfl _ rfl (by go_simp <;> (rw [IntKind.wrap_i64]; omega))
            case o7 =>
              intro f a u h hfi hp hq
              have q64 := h.att 4 rfl (pre_of hp 4 rfl)
              have q66 := h.att 6 rfl (pre_of hp 6 rfl)
              exact h.yield hok hd1 hfi rfl rfl 67 rfl (by change 67 < 76; decide) rfl _ rfl (by go_simp <;> (rw [IntKind.wrap_i64]; omega))
            case o8 =>
              intro f a u h hfi hp hq
              have q2 : a.tmps[2]?.getD undef = .string val := h.agree.att (by decide)
              exact h.yield hok hd1 hfi rfl rfl 68 rfl (by change 68 < 76; decide) rfl _ rfl (by go_simp <;> (rw [IntKind.wrap_i64]; omega))
            case o9 =>
              intro f a u h hfi hp hq
              have q68 := h.att 8 rfl (pre_of hp 8 rfl)
              exact h.yield hok hd1 hfi rfl rfl 69 rfl (by change 69 < 76; decide) rfl _ rfl (by go_simp <;> (rw [IntKind.wrap_i64]; omega))
            case o10 =>
              intro f a u h hfi hp hq
              have q67 := h.att 7 rfl (pre_of hp 7 rfl)
              have q69 := h.att 9 rfl (pre_of hp 9 rfl)
              exact h.yield hok hd1 hfi rfl rfl 70 rfl (by change 70 < 76; decide) rfl _ rfl (by go_simp <;> (rw [IntKind.wrap_i64]; omega))
            case o11 =>
              intro f a u h hfi hp hq
              have q8 : a.tmps[8]?.getD undef = .int .i64 0 := h.agree.att (by decide)
              exact h.yield hok hd1 hfi rfl rfl 71 rfl (by change 71 < 76; decide) rfl _ rfl (by go_simp <;> (rw [IntKind.wrap_i64]; omega))
            case o12 =>
              intro f a u h hfi hp hq
              have q70 := h.att 10 rfl (pre_of hp 10 rfl)
              have q71 := h.att 11 rfl (pre_of hp 11 rfl)
              exact h.yield hok hd1 hfi rfl rfl 72 rfl (by change 72 < 76; decide) rfl _ rfl (by go_simp <;> (rw [IntKind.wrap_i64]; omega))
            case o13 =>
              intro f a u h hfi hp hq
              have q9 : a.tmps[9]?.getD undef = .int .i64 1 := h.agree.att (by decide)
              exact h.yield hok hd1 hfi rfl rfl 73 rfl (by change 73 < 76; decide) rfl _ rfl (by go_simp <;> (rw [IntKind.wrap_i64]; omega))
            case o14 =>
              intro f a u h hfi hp hq
              have q72 := h.att 12 rfl (pre_of hp 12 rfl)
              have q73 := h.att 13 rfl (pre_of hp 13 rfl)
              exact h.yield hok hd1 hfi rfl rfl 74 rfl (by change 74 < 76; decide) rfl _ rfl (by go_simp <;> (rw [IntKind.wrap_i64]; omega))
            case o15 =>
              intro f a u h hfi hp hq
              have q61 := h.att 1 rfl (pre_of hp 1 rfl)
              have q74 := h.att 14 rfl (pre_of hp 14 rfl)
              exact h.yield hok hd1 hfi rfl rfl 75 rfl (by change 75 < 76; decide) rfl _ rfl (by go_simp <;> (rw [IntKind.wrap_i64]; omega))
            case o16 =>
              intro f a u h hfi hp hq
              have q75 := h.att 15 rfl (pre_of hp 15 rfl)
              exact h.yield hok hd1 hfi rfl rfl 6 rfl (by change 6 < 76; decide) rfl _ rfl (by go_simp <;> (rw [IntKind.wrap_i64]; omega))
          · intro f a u h hall hfar
            have hag := h.agree.out
            have e6 := h.at_ 16 rfl (hall 16 (by decide))
            have hxe := hxr.trans h.ext
            simp only [List.foldl_cons, List.foldl_nil, Act.put, List.setIfInBounds_toArray, List.set_cons_zero, List.set_cons_succ, e6] at hag
            generalize a.eval (.tmp 60) = y60 at hag
            generalize a.eval (.tmp 61) = y61 at hag
            generalize a.eval (.tmp 62) = y62 at hag
            generalize a.eval (.tmp 63) = y63 at hag
            generalize a.eval (.tmp 64) = y64 at hag
            generalize a.eval (.tmp 65) = y65 at hag
            generalize a.eval (.tmp 66) = y66 at hag
            generalize a.eval (.tmp 67) = y67 at hag
            generalize a.eval (.tmp 68) = y68 at hag
            generalize a.eval (.tmp 69) = y69 at hag
            generalize a.eval (.tmp 70) = y70 at hag
            generalize a.eval (.tmp 71) = y71 at hag
            generalize a.eval (.tmp 72) = y72 at hag
            generalize a.eval (.tmp 73) = y73 at hag
            generalize a.eval (.tmp 74) = y74 at hag
            generalize a.eval (.tmp 75) = y75 at hag
            clear h e6 hall hfar hok
            subst hag
            go_wp2
            go_ret
            exact ⟨rfl, hxe⟩
        · rw [if_neg h127] at hms
          go_wp2_with (go_at_call 12; ((with_reducible refine (good_calls_l m true hml A1 A2 none K1 V1 0 d1 d2 0 _ Hnm.out).mono ?_); rintro e w5 ⟨rfl, hx5⟩; clear b0 b1 b2 b3 c0 c1 c2 c3; obtain ⟨b0, b1, b2, b3⟩ := node_cells (Hb7.out.ext hx5); obtain ⟨c0, c1, c2, c3⟩ := node_cells (HbN.out.ext hx5); rw [hmg]))
          have hok : ∀ e ∈ ([] : List Ent), e.OK w5.drew.heap.size := fun e he => (by cases he)
          have hd1 : diesTab [] = true := rfl
          have hxr : Ext w w5.drew := hxu.trans hx5.drew
          refine wp_region_ops (RInv [60, 61, 62, 63, 64, 65, 66, 67, 68, 69, 70, 71, 72, 73, 74, 75, 6] _ w5.drew [(0, 60, .agg #[.bool true, .slice A1 K1 d1, .slice A2 V1 d2, .slice none 0 0]), (1, 61, .int .i64 ((L : Int) + 2 + key.size + val.size + 0 + 0)), (2, 62, .agg #[.bool true, .slice ka K kc, .slice va V vc, .slice da D dc]), (3, 63, .int .i64 (L : Int)), (4, 64, .int .i64 ((L : Int) + 2)), (5, 65, .string key), (6, 66, .int .i64 (key.size : Int)), (7, 67, .int .i64 ((L : Int) + 2 + key.size)), (8, 68, .string val), (9, 69, .int .i64 (val.size : Int)), (10, 70, .int .i64 ((L : Int) + 2 + key.size + val.size)), (11, 71, .int .i64 0), (12, 72, .int .i64 ((L : Int) + 2 + key.size + val.size + 0)), (13, 73, .int .i64 0), (14, 74, .int .i64 ((L : Int) + 2 + key.size + val.size + 0 + 0)), (15, 75, .bool true), (16, 6, .bool true)] []) (by kernel_rfl) (by kernel_rfl) RInv.start ?_ ?_
          · refine ⟨?o0, ?o1, ?o2, ?o3, ?o4, ?o5, ?o6, ?o7, ?o8, ?o9, ?o10, ?o11, ?o12, ?o13, ?o14, ?o15, ?o16, trivial⟩
            case o0 =>
              intro f a u h hfi hp hq
              have q7 : a.tmps[7]?.getD undef = .pointer (some ⟨g2, 0, none⟩) := h.agree.att (by decide)
              have z0 := h.ext.cell (show w5.drew.cell? _ = _ from b0); have z1 := h.ext.cell (show w5.drew.cell? _ = _ from b1); have z2 := h.ext.cell (show w5.drew.cell? _ = _ from b2); have z3 := h.ext.cell (show w5.drew.cell? _ = _ from b3)
              exact h.yield hok hd1 hfi rfl rfl 60 rfl (by change 60 < 76; decide) rfl _ rfl (by go_simp <;> (rw [IntKind.wrap_i64]; omega))
            case o1 =>
              intro f a u h hfi hp hq
              exact h.call hok hd1 hfi rfl rfl 61 rfl (by change 61 < 76; decide) rfl _ rfl 13 #[.tmp 60] #[25] _ rfl (by kernel_rfl) (by rw [arr1, h.at_ 0 rfl (pre_of hp 0 rfl)]) (by have c := size_calls' m true A1 A2 none K1 V1 0 d1 d2 0 u (Hnm.out.ext (hx5.drew.trans h.ext)) hml HMB.out; rw [hms] at c; exact c)
            case o2 =>
              intro f a u h hfi hp hq
              have q3 : a.tmps[3]?.getD undef = .pointer (some ⟨g, 0, none⟩) := h.agree.att (by decide)
              have z0 := h.ext.cell (show w5.drew.cell? _ = _ from c0); have z1 := h.ext.cell (show w5.drew.cell? _ = _ from c1); have z2 := h.ext.cell (show w5.drew.cell? _ = _ from c2); have z3 := h.ext.cell (show w5.drew.cell? _ = _ from c3)
              exact h.yield hok hd1 hfi rfl rfl 62 rfl (by change 62 < 76; decide) rfl _ rfl (by go_simp <;> (rw [IntKind.wrap_i64]; omega))
            case o3 =>
              intro f a u h hfi hp hq
              exact h.call hok hd1 hfi rfl rfl 63 rfl (by change 63 < 76; decide) rfl _ rfl 13 #[.tmp 62] #[25] _ rfl (by kernel_rfl) (by rw [arr1, h.at_ 2 rfl (pre_of hp 2 rfl)]) (by have c := size_calls' n true ka va da K V D kc vc dc u (Hh.out.ext (hxr.trans h.ext)) hl HB.out; rw [hsz] at c; exact c)
            case o4 =>
              intro f a u h hfi hp hq
              have q63 := h.att 3 rfl (pre_of hp 3 rfl)
              exact h.yield hok hd1 hfi rfl rfl 64 rfl (by change 64 < 76; decide) rfl _ rfl (by go_simp <;> (rw [IntKind.wrap_i64]; omega))
            case o5 =>
              intro f a u h hfi hp hq
              have q1 : a.tmps[1]?.getD undef = .string key := h.agree.att (by decide)
              exact h.yield hok hd1 hfi rfl rfl 65 rfl (by change 65 < 76; decide) rfl _ rfl (by go_simp <;> (rw [IntKind.wrap_i64]; omega))
            case o6 =>
              intro f a u h hfi hp hq
              have q65 := h.att 5 rfl (pre_of hp 5 rfl)
              exact h.yield hok hd1 hfi rfl rfl 66 rfl (by change 66 < 76; decide) rfl _ rfl (by go_simp <;> (rw [IntKind.wrap_i64]; omega))
            case o7 =>
              intro f a u h hfi hp hq
              have q64 := h.att 4 rfl (pre_of hp 4 rfl)
              have q66 := h.att 6 rfl (pre_of hp 6 rfl)
              exact h.yield hok hd1 hfi rfl rfl 67 rfl (by change 67 < 76; decide) rfl _ rfl (by go_simp <;> (rw [IntKind.wrap_i64]; omega))
            case o8 =>
              intro f a u h hfi hp hq
              have q2 : a.tmps[2]?.getD undef = .string val := h.agree.att (by decide)
              exact h.yield hok hd1 hfi rfl rfl 68 rfl (by change 68 < 76; decide) rfl _ rfl (by go_simp <;> (rw [IntKind.wrap_i64]; omega))
            case o9 =>
              intro f a u h hfi hp hq
              have q68 := h.att 8 rfl (pre_of hp 8 rfl)
              exact h.yield hok hd1 hfi rfl rfl 69 rfl (by change 69 < 76; decide) rfl _ rfl (by go_simp <;> (rw [IntKind.wrap_i64]; omega))
            case o10 =>
              intro f a u h hfi hp hq
              have q67 := h.att 7 rfl (pre_of hp 7 rfl)
              have q69 := h.att 9 rfl (pre_of hp 9 rfl)
              exact h.yield hok hd1 hfi rfl rfl 70 rfl (by change 70 < 76; decide) rfl _ rfl (by go_simp <;> (rw [IntKind.wrap_i64]; omega))
            case o11 =>
              intro f a u h hfi hp hq
              have q8 : a.tmps[8]?.getD undef = .int .i64 0 := h.agree.att (by decide)
              exact h.yield hok hd1 hfi rfl rfl 71 rfl (by change 71 < 76; decide) rfl _ rfl (by go_simp <;> (rw [IntKind.wrap_i64]; omega))
            case o12 =>
              intro f a u h hfi hp hq
              have q70 := h.att 10 rfl (pre_of hp 10 rfl)
              have q71 := h.att 11 rfl (pre_of hp 11 rfl)
              exact h.yield hok hd1 hfi rfl rfl 72 rfl (by change 72 < 76; decide) rfl _ rfl (by go_simp <;> (rw [IntKind.wrap_i64]; omega))
            case o13 =>
              intro f a u h hfi hp hq
              have q9 : a.tmps[9]?.getD undef = .int .i64 0 := h.agree.att (by decide)
              exact h.yield hok hd1 hfi rfl rfl 73 rfl (by change 73 < 76; decide) rfl _ rfl (by go_simp <;> (rw [IntKind.wrap_i64]; omega))
            case o14 =>
              intro f a u h hfi hp hq
              have q72 := h.att 12 rfl (pre_of hp 12 rfl)
              have q73 := h.att 13 rfl (pre_of hp 13 rfl)
              exact h.yield hok hd1 hfi rfl rfl 74 rfl (by change 74 < 76; decide) rfl _ rfl (by go_simp <;> (rw [IntKind.wrap_i64]; omega))
            case o15 =>
              intro f a u h hfi hp hq
              have q61 := h.att 1 rfl (pre_of hp 1 rfl)
              have q74 := h.att 14 rfl (pre_of hp 14 rfl)
              exact h.yield hok hd1 hfi rfl rfl 75 rfl (by change 75 < 76; decide) rfl _ rfl (by go_simp <;> (rw [IntKind.wrap_i64]; omega))
            case o16 =>
              intro f a u h hfi hp hq
              have q75 := h.att 15 rfl (pre_of hp 15 rfl)
              exact h.yield hok hd1 hfi rfl rfl 6 rfl (by change 6 < 76; decide) rfl _ rfl (by go_simp <;> (rw [IntKind.wrap_i64]; omega))
          · intro f a u h hall hfar
            have hag := h.agree.out
            have e6 := h.at_ 16 rfl (hall 16 (by decide))
            have hxe := hxr.trans h.ext
            simp only [List.foldl_cons, List.foldl_nil, Act.put, List.setIfInBounds_toArray, List.set_cons_zero, List.set_cons_succ, e6] at hag
            generalize a.eval (.tmp 60) = y60 at hag
            generalize a.eval (.tmp 61) = y61 at hag
            generalize a.eval (.tmp 62) = y62 at hag
            generalize a.eval (.tmp 63) = y63 at hag
            generalize a.eval (.tmp 64) = y64 at hag
            generalize a.eval (.tmp 65) = y65 at hag
            generalize a.eval (.tmp 66) = y66 at hag
            generalize a.eval (.tmp 67) = y67 at hag
            generalize a.eval (.tmp 68) = y68 at hag
            generalize a.eval (.tmp 69) = y69 at hag
            generalize a.eval (.tmp 70) = y70 at hag
            generalize a.eval (.tmp 71) = y71 at hag
            generalize a.eval (.tmp 72) = y72 at hag
            generalize a.eval (.tmp 73) = y73 at hag
            generalize a.eval (.tmp 74) = y74 at hag
            generalize a.eval (.tmp 75) = y75 at hag
            clear h e6 hall hfar hok
            subst hag
            go_wp2
            go_ret
            exact ⟨rfl, hxe⟩
set_option maxRecDepth 50000 in
set_option maxHeartbeats 4000000 in
theorem sizes_great (n : Nd) (key val : ByteArray) (ka va da : Option Addr) (K V D kc vc dc : Nat) (w : World) (h : NdAt w n ka va da K V D kc vc dc) (ht : 1024 < n.tot) :
    Calls Try.prog 4 #[nda n.leaf ka K kc va V vc da D dc, .string key, .string val] w fun e w' => e = .returned (.bool true) ∧ Ext w w' := by
  have htot : decide (1024 < n.tot) = true := decide_eq_true ht
  have hg : n.good = n.good := rfl
  have Hh := Lib.hid h
  clear h
  go_enter Try.func4, Try.ntmps4
  have hbox : Blk (w.alloc (.cells #[.bool n.leaf, .slice ka K kc, .slice va V vc, .slice da D dc] 25)) w.heap.size 25 #[.bool n.leaf, .slice ka K kc, .slice va V vc, .slice da D dc] := Blk.new w _ _
  have hx0 : Ext w (w.alloc (.cells #[.bool n.leaf, .slice ka K kc, .slice va V vc, .slice da D dc] 25)) := (Ext.refl _).alloc _
  have Hbox := Lib.hid hbox
  clear hbox
  go_wp2_with (first
    | (go_at_call 8; ((with_reducible refine (leaf_alive _).mono ?_); rintro e w1 ⟨rfl, hx1⟩; have hy1 := hx1; obtain ⟨c0, c1, c2, c3⟩ := node_cells (Hbox.out.ext hy1)))
    | (go_at_call 9; ((with_reducible refine (great_calls n n.leaf 1024 1024 rfl ka va da K V D kc vc dc _ (Hh.out.ext (hx0.trans hy1)) (by decide)).mono ?_); rintro e w2 ⟨rfl, hx2⟩; have hy2 := hy1.trans hx2; clear c0 c1 c2 c3; obtain ⟨c0, c1, c2, c3⟩ := node_cells (Hbox.out.ext hy2); rw [htot]))
    | (go_at_call 12; ((with_reducible refine (good_calls n ka va da K V D kc vc dc _ (Hh.out.ext (hx0.trans hy2))).mono ?_); rintro e w3 ⟨rfl, hx3⟩; have hy3 := hy2.trans hx3; clear c0 c1 c2 c3; obtain ⟨c0, c1, c2, c3⟩ := node_cells (Hbox.out.ext hy3); rw [hg])))
  go_ret
  exact ⟨rfl, hx0.trans hy2⟩

set_option maxRecDepth 50000 in
set_option maxHeartbeats 4000000 in
theorem sizes_long (n : Nd) (key val : ByteArray) (ka va da : Option Addr) (K V D kc vc dc : Nat) (w : World) (h : NdAt w n ka va da K V D kc vc dc) (hk : key.size ≤ 140737488351232) (hv : val.size ≤ 140737488351232) (ht : n.tot ≤ 1024) (hs : 1024 < key.size + val.size) :
    Calls Try.prog 4 #[nda n.leaf ka K kc va V vc da D dc, .string key, .string val] w fun e w' => e = .returned (.bool true) ∧ Ext w w' := by
  have htot : decide (1024 < n.tot) = false := decide_eq_false (by omega)
  have hs1 : (1024 : Int) < (key.size : Int) + (val.size : Int) := by omega
  have hg : n.good = n.good := rfl
  have Hh := Lib.hid h
  clear h
  go_enter Try.func4, Try.ntmps4
  have hbox : Blk (w.alloc (.cells #[.bool n.leaf, .slice ka K kc, .slice va V vc, .slice da D dc] 25)) w.heap.size 25 #[.bool n.leaf, .slice ka K kc, .slice va V vc, .slice da D dc] := Blk.new w _ _
  have hx0 : Ext w (w.alloc (.cells #[.bool n.leaf, .slice ka K kc, .slice va V vc, .slice da D dc] 25)) := (Ext.refl _).alloc _
  have Hbox := Lib.hid hbox
  clear hbox
  go_wp2_with (first
    | (go_at_call 8; ((with_reducible refine (leaf_alive _).mono ?_); rintro e w1 ⟨rfl, hx1⟩; have hy1 := hx1; obtain ⟨c0, c1, c2, c3⟩ := node_cells (Hbox.out.ext hy1)))
    | (go_at_call 9; ((with_reducible refine (great_calls n n.leaf 1024 1024 rfl ka va da K V D kc vc dc _ (Hh.out.ext (hx0.trans hy1)) (by decide)).mono ?_); rintro e w2 ⟨rfl, hx2⟩; have hy2 := hy1.trans hx2; clear c0 c1 c2 c3; obtain ⟨c0, c1, c2, c3⟩ := node_cells (Hbox.out.ext hy2); rw [htot]))
    | (go_at_call 12; ((with_reducible refine (good_calls n ka va da K V D kc vc dc _ (Hh.out.ext (hx0.trans hy2))).mono ?_); rintro e w3 ⟨rfl, hx3⟩; have hy3 := hy2.trans hx3; clear c0 c1 c2 c3; obtain ⟨c0, c1, c2, c3⟩ := node_cells (Hbox.out.ext hy3); rw [hg])))
  go_ret
  exact ⟨rfl, hx0.trans hy2⟩

set_option maxRecDepth 50000 in
set_option maxHeartbeats 4000000 in
theorem sizes_node (n : Nd) (key val : ByteArray) (ka va da : Option Addr) (K V D kc vc dc : Nat) (w : World) (h : NdAt w n ka va da K V D kc vc dc) (ht : n.tot ≤ 1024) (hs : key.size + val.size ≤ 1024) (hl : n.leaf = false) :
    Calls Try.prog 4 #[nda n.leaf ka K kc va V vc da D dc, .string key, .string val] w fun e w' => e = .returned (.bool true) ∧ Ext w w' := by
  have htot : decide (1024 < n.tot) = false := decide_eq_false (by omega)
  have hs1 : ¬ (1024 : Int) < (key.size : Int) + (val.size : Int) := by omega
  have hg : n.good = n.good := rfl
  rw [hl]
  have Hh := Lib.hid h
  clear h
  go_enter Try.func4, Try.ntmps4
  have hbox : Blk (w.alloc (.cells #[.bool false, .slice ka K kc, .slice va V vc, .slice da D dc] 25)) w.heap.size 25 #[.bool false, .slice ka K kc, .slice va V vc, .slice da D dc] := Blk.new w _ _
  have hx0 : Ext w (w.alloc (.cells #[.bool false, .slice ka K kc, .slice va V vc, .slice da D dc] 25)) := (Ext.refl _).alloc _
  have Hbox := Lib.hid hbox
  clear hbox
  go_wp2_with (first
    | (go_at_call 8; ((with_reducible refine (leaf_alive _).mono ?_); rintro e w1 ⟨rfl, hx1⟩; have hy1 := hx1; obtain ⟨c0, c1, c2, c3⟩ := node_cells (Hbox.out.ext hy1)))
    | (go_at_call 9; ((with_reducible refine (great_calls n false 1024 1024 rfl ka va da K V D kc vc dc _ (Hh.out.ext (hx0.trans hy1)) (by decide)).mono ?_); rintro e w2 ⟨rfl, hx2⟩; have hy2 := hy1.trans hx2; clear c0 c1 c2 c3; obtain ⟨c0, c1, c2, c3⟩ := node_cells (Hbox.out.ext hy2); rw [htot]))
    | (go_at_call 12; ((with_reducible refine (good_calls n ka va da K V D kc vc dc _ (Hh.out.ext (hx0.trans hy2))).mono ?_); rintro e w3 ⟨rfl, hx3⟩; have hy3 := hy2.trans hx3; clear c0 c1 c2 c3; obtain ⟨c0, c1, c2, c3⟩ := node_cells (Hbox.out.ext hy3); rw [hg])))
  go_ret
  exact ⟨rfl, hx0.trans hy2⟩

set_option maxRecDepth 50000 in
set_option maxHeartbeats 4000000 in
theorem sizes_bad (n : Nd) (key val : ByteArray) (ka va da : Option Addr) (K V D kc vc dc : Nat) (w : World) (h : NdAt w n ka va da K V D kc vc dc) (ht : n.tot ≤ 1024) (hs : key.size + val.size ≤ 1024) (hl : n.leaf = true) (hg : n.good = false) :
    Calls Try.prog 4 #[nda n.leaf ka K kc va V vc da D dc, .string key, .string val] w fun e w' => e = .returned (.bool true) ∧ Ext w w' := by
  have htot : decide (1024 < n.tot) = false := decide_eq_false (by omega)
  have hs1 : ¬ (1024 : Int) < (key.size : Int) + (val.size : Int) := by omega
  rw [hl]
  have Hh := Lib.hid h
  clear h
  go_enter Try.func4, Try.ntmps4
  have hbox : Blk (w.alloc (.cells #[.bool true, .slice ka K kc, .slice va V vc, .slice da D dc] 25)) w.heap.size 25 #[.bool true, .slice ka K kc, .slice va V vc, .slice da D dc] := Blk.new w _ _
  have hx0 : Ext w (w.alloc (.cells #[.bool true, .slice ka K kc, .slice va V vc, .slice da D dc] 25)) := (Ext.refl _).alloc _
  have Hbox := Lib.hid hbox
  clear hbox
  go_wp2_with (first
    | (go_at_call 8; ((with_reducible refine (leaf_alive _).mono ?_); rintro e w1 ⟨rfl, hx1⟩; have hy1 := hx1; obtain ⟨c0, c1, c2, c3⟩ := node_cells (Hbox.out.ext hy1)))
    | (go_at_call 9; ((with_reducible refine (great_calls n true 1024 1024 rfl ka va da K V D kc vc dc _ (Hh.out.ext (hx0.trans hy1)) (by decide)).mono ?_); rintro e w2 ⟨rfl, hx2⟩; have hy2 := hy1.trans hx2; clear c0 c1 c2 c3; obtain ⟨c0, c1, c2, c3⟩ := node_cells (Hbox.out.ext hy2); rw [htot]))
    | (go_at_call 12; ((with_reducible refine (good_calls_l n true hl ka va da K V D kc vc dc _ (Hh.out.ext (hx0.trans hy2))).mono ?_); rintro e w3 ⟨rfl, hx3⟩; have hy3 := hy2.trans hx3; clear c0 c1 c2 c3; obtain ⟨c0, c1, c2, c3⟩ := node_cells (Hbox.out.ext hy3); rw [hg])))
  go_ret
  exact ⟨rfl, hx0.trans hy3⟩

theorem leafSizes_calls (n : Nd) (key val : ByteArray) (ka va da : Option Addr) (K V D kc vc dc : Nat) (w : World) (h : NdAt w n ka va da K V D kc vc dc) (hk : key.size ≤ 140737488351232) (hv : val.size ≤ 140737488351232) :
    Calls Try.prog 4 #[nda n.leaf ka K kc va V vc da D dc, .string key, .string val] w fun e w' => e = .returned (.bool true) ∧ Ext w w' := by
  by_cases ht : 1024 < n.tot
  · exact sizes_great n key val ka va da K V D kc vc dc w h ht
  by_cases hs : 1024 < key.size + val.size
  · exact sizes_long n key val ka va da K V D kc vc dc w h hk hv (by omega) hs
  cases hl : n.leaf with
  | false =>
    have := sizes_node n key val ka va da K V D kc vc dc w h (by omega) (by omega) hl
    rwa [hl] at this
  | true =>
    cases hg : n.good with
    | false =>
      have := sizes_bad n key val ka va da K V D kc vc dc w h (by omega) (by omega) hl hg
      rwa [hl] at this
    | true => exact sizes_main n key val ka va da K V D kc vc dc w h (by omega) (by omega) hl hg
end Go.Proofs.Ytmfmpbeempjeoaa
