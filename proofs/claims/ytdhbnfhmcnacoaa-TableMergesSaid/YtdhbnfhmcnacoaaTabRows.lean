/- Rows of tables' writes; the reference's Merge. -/
import Derived.Test.YtdhbnfhmcnacoaaTabGet2
namespace Go.Proofs.Ytdhbnfhmcnacoaa
open Go.RowKit Go.Shelf
set_option linter.unusedVariables false

def WVal (w : World) (v : Value) (l : List W3) : Prop := ∃ A c, v = .slice A l.length c ∧ Row w A 3 (l.map wC)
theorem WVal.ext {w w' : World} {v : Value} {l : List W3} (h : WVal w v l) (k : Ext w w') : WVal w' v l := by
  obtain ⟨A, c, e, h⟩ := h
  exact ⟨A, c, e, h.ext k⟩
def WSs (w : World) (A : Option Addr) (ls : List (List W3)) : Prop := ∀ i l, ls[i]? = some l → ∃ ad v, A = some ad ∧ w.cell? (ad.add i) = some v ∧ WVal w v l
theorem WSs.ext {w w' : World} {A : Option Addr} {ls : List (List W3)} (h : WSs w A ls) (k : Ext w w') : WSs w' A ls := fun i l hi => by
  obtain ⟨ad, v, h1, h2, h3⟩ := h i l hi
  exact ⟨ad, v, h1, k.cell h2, h3.ext k⟩
def ReadsW (w : World) (ps : List Value) (ls : List (List W3)) : Prop := ps.length = ls.length ∧ ∀ (i : Nat) v l, ps[i]? = some v → ls[i]? = some l → WVal w v l
theorem ReadsW.nil (w : World) : ReadsW w [] [] := ⟨rfl, fun i v l h => by simp at h⟩
theorem ReadsW.ext {w w' : World} {ps : List Value} {ls : List (List W3)} (h : ReadsW w ps ls) (k : Ext w w') : ReadsW w' ps ls := ⟨h.1, fun i v l hv hl => (h.2 i v l hv hl).ext k⟩
theorem ReadsW.snoc {w : World} {ps : List Value} {ls : List (List W3)} (h : ReadsW w ps ls) {v : Value} {l : List W3} (k : WVal w v l) : ReadsW w (ps ++ [v]) (ls ++ [l]) := by
  refine ⟨by rw [List.length_append, List.length_append, h.1]; rfl, fun i u x hv hx => ?_⟩
  by_cases hi : i < ps.length
  · rw [List.getElem?_append_left hi] at hv
    rw [List.getElem?_append_left (by rw [← h.1]; exact hi)] at hx
    exact h.2 i u x hv hx
  · rw [List.getElem?_append_right (by omega)] at hv
    rw [List.getElem?_append_right (by rw [← h.1]; omega), ← h.1] at hx
    match hj : i - ps.length with
    | 0 =>
      rw [hj] at hv hx
      cases hv
      cases hx
      exact k
    | j + 1 =>
      rw [hj] at hv
      simp at hv
theorem ReadsW.wss {w : World} {A : Option Addr} {ps : List Value} {ls : List (List W3)} (h : ReadsW w ps ls) (hc : Cells w A ps) : WSs w A ls := by
  intro i l hi
  have hlt : i < ls.length := (List.getElem?_eq_some_iff.1 hi).1
  have hp : ps[i]? = some (ps[i]'(by rw [h.1]; exact hlt)) := List.getElem?_eq_getElem _
  obtain ⟨x, e, hcc⟩ := hc i _ hp
  exact ⟨x, _, e, hcc, h.2 i _ _ hp hi⟩
theorem ReadsW.one_cell {w : World} {ps : List Value} {ls : List (List W3)} (h : ReadsW w ps ls) : ∀ u ∈ ps, u.oneCell' = true := by
  intro u hu
  obtain ⟨i, hi, rfl⟩ := List.getElem_of_mem hu
  have hlt : i < ls.length := by rw [← h.1]; exact hi
  obtain ⟨a, c, e, _⟩ := h.2 i _ _ (List.getElem?_eq_getElem hi) (List.getElem?_eq_getElem hlt)
  rw [e]; rfl
theorem wpList_append_1 (w : World) {ops : Array Oper} {rest : List Oper} {o : Oper} {a : Act} {Q : Exit → Act → World → Prop} (hgd : o.guard = none) (s x : Operand) (t e : TypeId) (z : Value) (bytes : Nat)
    (ho : o.op = .call { callee := .builtin .append, args := #[s, x], argTypes := #[t, t] }) (ht : Try.prog.underlying t = some (.slice e)) (hi : (Try.prog.info? e).map (fun i => (i.zero, i.size, i.bytes)) = some (some z, 1, bytes)) (hz : z.cells.size = 1) (hb : bytes ≤ 64)
    (B n : Nat) (v : Value) (ps : List Value) (hs : a.eval s = v) (hown : w.ownsRow B e 1 v n ps)
    (A : Option Addr) (m c : Nat) (qs : List Value) (hx : a.eval x = .slice A m c) (hm : qs.length = m) (hr : Cells w A qs) (h1 : ∀ u ∈ qs, u.oneCell' = true)
    (hlen : n + m ≤ 1048576) (hbase : B ≤ w.heap.size)
    (h : ∀ v' w', w'.ownsRow B e 1 v' (n + m) (ps ++ qs) → w.grownBy w' v.ownBlock → wpList Try.prog ops Q rest (a.put o.dst v') w') : wpList Try.prog ops Q (o :: rest) a w := by
  subst hm
  have hbb : (n + qs.length) * bytes ≤ 1048576 * 64 := Nat.mul_le_mul hlen hb
  refine wpList_plain hgd fun _ hK => wp_append w s x t ho B e z 1 bytes ht hi hz (by decide) v n ps hs hown A qs.length c qs hx
    (by rw [Nat.mul_one]) hr h1 (by simp only [maxLen]; omega) (by omega) hbase ?_
  intro v' w' ho' hg _
  exact hK _ _ (h v' w' ho' hg)
def kp (b : Bool) (x : W3) : Bool := !b || keepW x
theorem kp_mrg (b : Bool) (ls : List (List W3)) : (tabOf ls.flatten).filter (kp b) = mrg b ls := by
  cases b with
  | false =>
    show (tabOf ls.flatten).filter (fun x => kp false x) = tabOf ls.flatten
    exact List.filter_eq_self.2 fun x _ => rfl
  | true => rfl
set_option maxRecDepth 50000 in
set_option maxHeartbeats 8000000 in
theorem rmerge_calls (b : Bool) (ls : List (List W3)) (A : Option Addr) (n c : Nat) (w : World) (hr : WSs w A ls) (hn : ls.length = n) (hn9 : n ≤ 1000000) (hl : ls.flatten.length ≤ 100000) :
    Calls Try.prog 25 #[.bool b, .slice A n c] w fun e w' => ∃ v, e = .returned v ∧ OwnW w.heap.size w' v (mrg b ls) ∧ Ext w w' := by
  have HR := Lib.hid hr
  have HN := Lib.hid hn
  have HL := Lib.hid hl
  clear hr hn hl
  go_enter Try.func25, Try.ntmps25
  go_upto_region 3 with (fail)
  go_loopw [13, 5] (fun i u wr => ∃ (k : Nat), k ≤ n ∧ i = .int .i64 k ∧ Hid (OwnW w.heap.size wr u (ls.take k).flatten) ∧ Ext w wr) (fun i _ _ => n - (intOf i).toNat)
  case atStart => exact ⟨0, Nat.zero_le _, rfl, Lib.hid (OwnW.nil _ _), Ext.refl _⟩
  case round =>
    obtain ⟨k, hk, rfl, HO, hx⟩ := hrel
    obtain ⟨A5, c5, rfl, _, _, hc5⟩ := HO.out.form
    have HC5 := Lib.hid hc5
    clear hc5
    by_cases hlt : k < n
    · have hkl : k < ls.length := by rw [HN.out]; exact hlt
      obtain ⟨l, hle⟩ : ∃ l, ls[k]? = some l := ⟨_, List.getElem?_eq_getElem hkl⟩
      have htk : (ls.take (k + 1)).flatten = (ls.take k).flatten ++ l := by rw [List.take_add_one, hle]; simp
      obtain ⟨L, hL⟩ : ∃ L, L = (ls.take k).flatten := ⟨_, rfl⟩
      rw [← hL] at HO HC5 htk ⊢
      have hLt : L.length + l.length ≤ 100000 := by
        have h1 : ls.flatten = (L ++ l) ++ (ls.drop (k + 1)).flatten := by rw [← htk, ← List.flatten_append, List.take_append_drop]
        have h2 := HL.out
        rw [h1, List.length_append, List.length_append] at h2
        omega
      obtain ⟨ad, v, rfl, hcell0, A7, c7, rfl, hrow⟩ := HR.out k l hle
      have hcell : wr.cell? (ad.add k) = some (.slice A7 l.length c7) := hx.cell hcell0
      have HR7 := Lib.hid (Row.cells (hrow.ext hx) (by decide))
      have HTK := Lib.hid htk
      clear hcell0 hrow htk hle hkl hL
      have hp0 : (0 : Int) ≤ (k : Int) := by omega
      have hp1 : (k : Int) < (n : Int) := by omega
      go_wp2_with (at_builtin; refine wpList_append_w _ rfl (.tmp 17) (.tmp 18) rfl w.heap.size (.slice A5 L.length c5) L rfl HO.out A7 l.length c7 l rfl rfl HR7.out (by omega) hx.size ?_; intro v5 w5 ho5 hg5 _; have hx5 : Ext w w5 := hx.grown_ hg5 (fun j e => (own_lt HO.out e).1); rw [← HTK.out] at ho5; have HO5 := Lib.hid ho5; clear ho5 hg5)
      go_roundw
      case rel => exact ⟨k + 1, by omega, by go_num, HO5, hx5⟩
      case measure => simp [intOf]; omega
    · obtain rfl : n = k := by omega
      have hL : (ls.take n).flatten = ls.flatten := by rw [← HN.out, List.take_length]
      rw [hL] at HO HC5 ⊢
      obtain ⟨L, hL2⟩ : ∃ L, L = ls.flatten := ⟨_, rfl⟩
      have hLl : L.length ≤ 100000 := by rw [hL2]; exact HL.out
      rw [← hL2] at HO HC5 ⊢
      have HMR : Hid ((tabOf L).filter (kp b) = mrg b ls) := Lib.hid (by rw [hL2]; exact kp_mrg b ls)
      have HOF := Lib.hid (rof_calls L A5 L.length c5 wr (row_of_cells HC5.out) rfl hLl)
      have hTl : (tabOf L).length ≤ 100000 := Nat.le_trans (tabOf_len L) hLl
      clear hL hL2
      go_upto_region 9 with (go_at_call 22; (with_reducible refine Calls.mono HOF.out ?_); rintro e w6 ⟨v6, rfl, ho6, hx6'⟩; obtain ⟨A6, c6, rfl, _, _, hc6⟩ := ho6.form)
      have hx6 := hx.trans hx6'
      obtain ⟨T, hT⟩ : ∃ T, T = tabOf L := ⟨_, rfl⟩
      rw [← hT] at hc6 ho6 HMR hTl ⊢
      obtain ⟨m, hm⟩ : ∃ m, T.length = m := ⟨_, rfl⟩
      rw [hm] at hTl ⊢
      have HT := Lib.hid hm
      have HR6 := Lib.hid (row_of_cells hc6)
      have HX6 := Lib.hid hx6
      have h06 : w.heap.size ≤ w6.heap.size := hx6.size
      clear hT hm hc6 ho6 hx6' hx HO HC5 HOF hx6
      go_loopw [24, 8] (fun i u wr => ∃ (k : Nat), k ≤ m ∧ i = .int .i64 k ∧ Hid (OwnW w6.heap.size wr u ((T.take k).filter (kp b))) ∧ Ext w6 wr) (fun i _ _ => m - (intOf i).toNat)
      case atStart => exact ⟨0, Nat.zero_le _, rfl, Lib.hid (OwnW.nil _ _), Ext.refl _⟩
      case round =>
        obtain ⟨k, hk, rfl, HO, hx⟩ := hrel
        obtain ⟨A8, c8, rfl, _, _, _⟩ := HO.out.form
        by_cases hlt : k < m
        · have hkl : k < T.length := by rw [HT.out]; exact hlt
          obtain ⟨ad, rfl, hlc0⟩ := HR6.out.get (i := k) (by simpa using hkl)
          rw [List.getElem_map] at hlc0
          obtain ⟨x, hxe⟩ : ∃ x, T[k]? = some x := ⟨_, List.getElem?_eq_getElem hkl⟩
          rw [(List.getElem?_eq_some_iff.1 hxe).2] at hlc0
          have hlc : ∀ (a : Nat) (v : Value), (wC x)[a]? = some v → wr.cell? ((ad.add (k * 3)).add a) = some v := fun a v hv => hx.cell (hlc0 a v hv)
          have htk : (T.take (k + 1)).filter (kp b) = (T.take k).filter (kp b) ++ [x].filter (kp b) := by rw [List.take_add_one, hxe, List.filter_append]; rfl
          have hol : ((T.take k).filter (kp b)).length ≤ k := by
            have h1 := List.length_filter_le (kp b) (T.take k)
            rw [List.length_take] at h1
            omega
          obtain ⟨out, hout⟩ : ∃ out, out = (T.take k).filter (kp b) := ⟨_, rfl⟩
          rw [← hout] at HO htk hol ⊢
          have HTK := Lib.hid htk
          clear hlc0 htk hxe hkl hout
          have hp0 : (0 : Int) ≤ (k : Int) := by omega
          have hp1 : (k : Int) < (m : Int) := by omega
          go_upto_region 11 with (first
            | (refine wpList_load_row_ rfl 46 (.tmp 26) rfl (ad.add (k * 3)) rfl (wC x) _ hlc Try.underlying46 rfl (by rw [w_info]; rfl) ?_)
            | (refine wpList_store_blk rfl 46 (.tmp 10) (.tmp 27) rfl rfl wr.heap.size (wC x).toArray rfl rfl _ _ (Blk.new wr _ _) rfl (by kernel_rfl) (wC_one x) ?_; intro w3 hb3 hg3; have hx3 : Ext wr w3 := ((Ext.refl _).alloc _).grown_ hg3 (by simp)))
          obtain ⟨q, hq⟩ : ∃ q, q = wr.heap.size := ⟨_, rfl⟩
          rw [← hq] at hb3 ⊢
          have HB3 := Lib.hid hb3
          have HO3 := Lib.hid (HO.out.ext hx3)
          have hx63 := hx.trans hx3
          have hz63 : w6.heap.size ≤ w3.heap.size := hx63.size
          obtain ⟨x0, x1, x2⟩ := x
          have hc2 : w3.cell? ⟨q, 2, none⟩ = some (.bool x2) := by rw [HB3.out.cell]; rfl
          clear hlc hg3 hb3 hq HO hx3
          cases b
          · cases x2
            · have hk1 : [((x0, x1, false) : W3)].filter (kp false) = [(x0, x1, false)] := rfl
              have htk' := HTK.out
              rw [hk1] at htk'
              have HTK' := Lib.hid htk'
              clear htk' hk1 HTK
              go_wp2_with (first
                | (refine wpList_load_row_ rfl 46 (.tmp 10) rfl ⟨q, 0, none⟩ rfl [.string x0, .string x1, .bool false] _ (blk_cells HB3.out) Try.underlying46 rfl (by rw [w_info]; rfl) ?_)
                | (at_builtin; refine wpList_append_w _ rfl (.tmp 35) (.tmp 37) rfl w6.heap.size (.slice A8 out.length c8) out rfl (HO3.out.ext ((Ext.refl w3).alloc (.cells (wC (x0, x1, false)).toArray 46))) (some ⟨w3.heap.size, 0, none⟩) 1 1 [(x0, x1, false)] rfl rfl (Blk.new w3 46 (wC (x0, x1, false)).toArray).cells (by omega) (Nat.le_trans hz63 ((Ext.refl w3).alloc (.cells (wC (x0, x1, false)).toArray 46)).size) ?_; intro v5 w5 ho5 hg5 _; have hxl5 := (Ext.refl w3).alloc (.cells (wC (x0, x1, false)).toArray 46); have hx65 := (hx63.trans hxl5).grown_ hg5 (fun j e => (own_lt (HO3.out.ext hxl5) e).1); rw [← HTK'.out] at ho5; have HO5 := Lib.hid ho5; clear ho5 hg5 hxl5))
              go_roundw
              case rel => exact ⟨k + 1, by omega, by go_num, HO5, hx65⟩
              case measure => simp [intOf]; omega
            · have hk1 : [((x0, x1, true) : W3)].filter (kp false) = [(x0, x1, true)] := rfl
              have htk' := HTK.out
              rw [hk1] at htk'
              have HTK' := Lib.hid htk'
              clear htk' hk1 HTK
              go_wp2_with (first
                | (refine wpList_load_row_ rfl 46 (.tmp 10) rfl ⟨q, 0, none⟩ rfl [.string x0, .string x1, .bool true] _ (blk_cells HB3.out) Try.underlying46 rfl (by rw [w_info]; rfl) ?_)
                | (at_builtin; refine wpList_append_w _ rfl (.tmp 35) (.tmp 37) rfl w6.heap.size (.slice A8 out.length c8) out rfl (HO3.out.ext ((Ext.refl w3).alloc (.cells (wC (x0, x1, true)).toArray 46))) (some ⟨w3.heap.size, 0, none⟩) 1 1 [(x0, x1, true)] rfl rfl (Blk.new w3 46 (wC (x0, x1, true)).toArray).cells (by omega) (Nat.le_trans hz63 ((Ext.refl w3).alloc (.cells (wC (x0, x1, true)).toArray 46)).size) ?_; intro v5 w5 ho5 hg5 _; have hxl5 := (Ext.refl w3).alloc (.cells (wC (x0, x1, true)).toArray 46); have hx65 := (hx63.trans hxl5).grown_ hg5 (fun j e => (own_lt (HO3.out.ext hxl5) e).1); rw [← HTK'.out] at ho5; have HO5 := Lib.hid ho5; clear ho5 hg5 hxl5))
              go_roundw
              case rel => exact ⟨k + 1, by omega, by go_num, HO5, hx65⟩
              case measure => simp [intOf]; omega
          · cases x2
            · have hk1 : [((x0, x1, false) : W3)].filter (kp true) = [(x0, x1, false)] := rfl
              have htk' := HTK.out
              rw [hk1] at htk'
              have HTK' := Lib.hid htk'
              clear htk' hk1 HTK
              go_wp2_with (first
                | (refine wpList_load_row_ rfl 46 (.tmp 10) rfl ⟨q, 0, none⟩ rfl [.string x0, .string x1, .bool false] _ (blk_cells HB3.out) Try.underlying46 rfl (by rw [w_info]; rfl) ?_)
                | (at_builtin; refine wpList_append_w _ rfl (.tmp 35) (.tmp 37) rfl w6.heap.size (.slice A8 out.length c8) out rfl (HO3.out.ext ((Ext.refl w3).alloc (.cells (wC (x0, x1, false)).toArray 46))) (some ⟨w3.heap.size, 0, none⟩) 1 1 [(x0, x1, false)] rfl rfl (Blk.new w3 46 (wC (x0, x1, false)).toArray).cells (by omega) (Nat.le_trans hz63 ((Ext.refl w3).alloc (.cells (wC (x0, x1, false)).toArray 46)).size) ?_; intro v5 w5 ho5 hg5 _; have hxl5 := (Ext.refl w3).alloc (.cells (wC (x0, x1, false)).toArray 46); have hx65 := (hx63.trans hxl5).grown_ hg5 (fun j e => (own_lt (HO3.out.ext hxl5) e).1); rw [← HTK'.out] at ho5; have HO5 := Lib.hid ho5; clear ho5 hg5 hxl5))
              go_roundw
              case rel => exact ⟨k + 1, by omega, by go_num, HO5, hx65⟩
              case measure => simp [intOf]; omega
            · have hk1 : [((x0, x1, true) : W3)].filter (kp true) = [] := rfl
              have htk' := HTK.out
              rw [hk1, List.append_nil] at htk'
              have ho5 := HO3.out
              rw [← htk'] at ho5
              rw [← htk']
              have HO5 := Lib.hid ho5
              clear htk' hk1 HTK ho5
              go_wp2
              go_roundw
              case rel => exact ⟨k + 1, by omega, by go_num, HO5, hx63⟩
              case measure => simp [intOf]; omega
        · obtain rfl : m = k := by omega
          have hM : (T.take m).filter (kp b) = mrg b ls := by rw [← HT.out, List.take_length]; exact HMR.out
          have HM := Lib.hid hM
          clear hM
          go_wp2
          go_ret
          refine ⟨_, rfl, ?_, HX6.out.trans hx⟩
          rw [← HM.out]
          exact HO.out.lower h06
end Go.Proofs.Ytdhbnfhmcnacoaa
