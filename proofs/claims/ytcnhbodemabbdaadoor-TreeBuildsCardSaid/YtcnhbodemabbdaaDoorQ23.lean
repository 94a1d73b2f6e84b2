/- The walk of sha's Of: the digest of pieces. -/
import Derived.Test.YtcnhbodemabbdaaDoorQ20
import Derived.Test.YtcnhbodemabbdaaDoorQ22
import Derived.Test.YtcnhbodemabbdaaDoorQ13
namespace Go.Proofs.YtcnhbodemabbdaaDoor
open Go.RowKit
set_option linter.unusedVariables false

/-- Of's memory while the pieces are taken in. -/
structure ShOW (w wr : World) (G : Nat) (all : List UInt8) : Prop where
  ext : Ext w wr
  res : ∃ z : Array Value, z.size = 32 ∧ Blk wr w.heap.size 25 z
  st : Blk wr (w.heap.size + 1) 149 (stv (whole all))
  buf : ∃ B, Left all B ∧ Buf wr G 150 B
  lt : w.heap.size + 1 < G
theorem ShOW.drewN {w wr : World} {G : Nat} {all : List UInt8} (h : ShOW w wr G all) (n : Nat) : ShOW w (wr.drewN n) G all := ⟨h.ext.drewN n, h.res, h.st, h.buf, h.lt⟩
theorem ShOW.turn {w wr w' : World} {G : Nat} {all all' B' : List UInt8} (h : ShOW w wr G all) (hg : wr.grownBy w' (some G)) (hb : Buf w' G 150 B') (hl : Left all' B') (hw : whole all' = whole all) : ShOW w w' G all' := by
  have hlt := h.lt
  exact ⟨h.ext.grown_ hg (by simp; omega), let ⟨z, e, b⟩ := h.res; ⟨z, e, b.grown hg (by simp; omega)⟩, by rw [hw]; exact h.st.grown hg (by simp; omega), ⟨B', hl, hb⟩, h.lt⟩

theorem stv0_size (s : St) : (stv s).size = 8 := rfl
theorem stv_cells (s : St) : ∀ v ∈ (stv s).toList, v.oneCell' = true := by
  intro v hv
  simp [stv] at hv
  rcases hv with rfl | rfl | rfl | rfl | rfl | rfl | rfl | rfl <;> rfl
theorem buf0 : (bv (List.replicate 64 0)).toArray = ((List.range 64).map fun _ => Value.int .u8 0).toArray := rfl

/-- Of's memory behind the pieces. -/
structure OX (w wr : World) (G : Nat) (S : St) : Prop where
  ext : Ext w wr
  res : ∃ z : Array Value, z.size = 32 ∧ Blk wr w.heap.size 25 z
  st : Blk wr (w.heap.size + 1) 149 (stv S)
  lt : w.heap.size + 1 < G
theorem OX.keep {w wr w' : World} {G : Nat} {S : St} (h : OX w wr G S) (hg : wr.grownBy w' (some G)) : OX w w' G S := by
  have hlt := h.lt
  exact ⟨h.ext.grown_ hg (by simp; omega), let ⟨z, e, b⟩ := h.res; ⟨z, e, b.grown hg (by simp; omega)⟩, h.st.grown hg (by simp; omega), h.lt⟩
theorem OX.turn {w wr w' : World} {G : Nat} {S S' : St} (h : OX w wr G S) (hg : wr.grownBy w' (some (w.heap.size + 1))) (hb : Blk w' (w.heap.size + 1) 149 (stv S')) : OX w w' G S' :=
  ⟨h.ext.grown_ hg (by simp), let ⟨z, e, b⟩ := h.res; ⟨z, e, b.grown hg (by simp)⟩, hb, h.lt⟩
theorem b8_take (B : List UInt8) (t : Nat) (hB : B.length = 64) (ht : t < 56) : (B.take t ++ 128 :: List.replicate (64 - 1 - t) 0).take 56 = B.take t ++ 128 :: List.replicate (55 - t) 0 := by
  rw [List.take_append, List.take_of_length_le (by rw [List.length_take]; omega), List.length_take, hB, show 56 - min t 64 = (55 - t) + 1 by omega, List.take_succ_cons, List.take_replicate, show min (55 - t) (64 - 1 - t) = 55 - t by omega]

/-- The buffer's cells while the length is written, and when it is. -/
def eF (B : List UInt8) (n : Nat) (j : Nat) : Value := .int .u8 ((B.take 56 ++ be8 n).getD j 0).toNat
def eZ (B : List UInt8) (j : Nat) : Value := .int .u8 (B.getD j 0).toNat
theorem e_start (B : List UInt8) (n : Nat) (h : B.length = 64) : upTo 64 56 (eF B n) (eZ B) = (bv B).toArray := by
  rw [bv_range B 64 h, upTo_same]
  · rfl
  · intro j hj
    unfold eF eZ
    rw [List.getD_eq_getElem?_getD, List.getD_eq_getElem?_getD, List.getElem?_append_left (by rw [List.length_take]; omega), List.getElem?_take_of_lt hj]
theorem e_len (B : List UInt8) (n : Nat) (h : B.length = 64) : (B.take 56 ++ be8 n).length = 64 := by rw [List.length_append, List.length_take, be8_len]; omega
theorem e_end (B : List UInt8) (n : Nat) (h : B.length = 64) : upTo 64 64 (eF B n) (eZ B) = (bv (B.take 56 ++ be8 n)).toArray := by
  rw [bv_range _ 64 (e_len B n h), upTo_all]
  rfl
theorem e_val (B : List UInt8) (n i : Nat) (h : B.length = 64) (hi : i < 8) : eF B n (56 + i) = .int .u8 ((n * 8 / 2 ^ (56 - 8 * i) % 256 : Nat) : Int) := by
  unfold eF
  rw [List.getD_eq_getElem?_getD, List.getElem?_append_right (by rw [List.length_take]; omega), List.length_take, h, show 56 + i - min 56 64 = i by omega, be8, List.getElem?_map, List.getElem?_range hi]
  simp

theorem take_more {p : List UInt8} {r m : Nat} (hr : r ≤ p.length) (hm : m ≤ r) : p.take (p.length - r) ++ (p.drop (p.length - r)).take m = p.take (p.length - (r - m)) := by
  rw [show p.length - (r - m) = (p.length - r) + m by omega, List.take_add]
theorem flat_take {xs : List (List UInt8)} {k : Nat} (hk : k < xs.length) : (xs.take k).flatten ++ xs[k] = (xs.take (k + 1)).flatten := by
  rw [List.take_succ_eq_append_getElem hk, List.flatten_append]; simp
theorem flat_le (xs : List (List UInt8)) (k : Nat) : ((xs.take k).flatten).length ≤ xs.flatten.length := by
  have h := congrArg (fun l => (List.flatten l).length) (List.take_append_drop k xs)
  simp only [List.flatten_append, List.length_append] at h
  omega

set_option maxRecDepth 100000 in
set_option maxHeartbeats 8000000 in
theorem of_calls (a : Option Addr) (n c : Nat) (xs : List (List UInt8)) (w : World) (h : BSs w a xs) (hn : xs.length = n) (hl : n ≤ 1048576) (ht : xs.flatten.length ≤ 1048576) (hT : Tab w) :
    Calls Tryd.prog 58 #[.slice a n c] w fun e w' => e = .returned (.agg (bv (sha xs.flatten)).toArray) ∧ Ext w w' := by
  go_enter Tryd.func58, Tryd.ntmps58
  go_wp2_with (refine wpList_store_blk rfl 149 (.tmp 3) (.tmp 13) rfl rfl (w.heap.size + 1) (stv st0) rfl rfl _ _ (Blk.new_at (by simp) _ _) rfl (by kernel_rfl) ?_ ?_; exact stv_cells st0; intro w1 hb1 hg1; have hx1 : Ext w w1 := (((Ext.refl _).alloc _).alloc _).grown_ hg1 (by simp); have hR := ((Blk.new w _ _).alloc _).grown hg1 (by simp); clear hg1)
  have hO : ShOW w (w1.alloc (.cells (bv (List.replicate 64 0)).toArray 150)) w1.heap.size [] :=
    ⟨hx1.alloc _, ⟨_, rfl, hR.alloc _⟩, hb1.alloc _, ⟨_, left_nil _ rfl, Blk.new w1 _ _⟩, hb1.lt⟩
  obtain ⟨G, hG⟩ : ∃ G, G = w1.heap.size := ⟨_, rfl⟩
  rw [← hG] at hO ⊢
  clear hG hx1 hb1 hR
  go_loopg [5, 6, 16] n (fun gk v5 v6 i wr => ∃ k : Nat, k + gk = n ∧ i = .int .i64 k ∧ v5 = .int .i64 ((xs.take k).flatten.length : Nat) ∧ v6 = .int .i64 ((xs.take k).flatten.length % 64 : Nat) ∧ ShOW w wr G (xs.take k).flatten)
  case atStart => exact ⟨0, by omega, rfl, rfl, rfl, hO⟩
  case round =>
    clear hO
    obtain ⟨k, hk, rfl, rfl, rfl, hO⟩ := hrel
    have hfl := flat_le xs k
    cases gk with
    | succ j =>
      have hlt : k < xs.length := by omega
      obtain ⟨x, b, cb, hx, hcell, hcb, hb⟩ := h.get hlt
      subst hx
      have hcell' := hO.ext.cell hcell
      have hfl1 := flat_le xs (k + 1)
      have hfe := flat_take hlt
      obtain ⟨p, hp⟩ : ∃ p, p = xs[k] := ⟨_, rfl⟩
      obtain ⟨all, hall⟩ : ∃ all, all = (xs.take k).flatten := ⟨_, rfl⟩
      rw [← hp] at hcell' hcb hb hfe
      rw [← hall] at hO hfl hfe ⊢
      have hlen : (xs.take (k + 1)).flatten.length = all.length + p.length := by rw [← hfe, List.length_append]
      rw [hlen] at hfl1
      obtain ⟨pn, hpn⟩ : ∃ pn, pn = p.length := ⟨_, rfl⟩
      obtain ⟨an, han⟩ : ∃ an, an = all.length := ⟨_, rfl⟩
      rw [← hpn] at hcell' hcb hfl1
      rw [← han] at hfl hfl1 ⊢
      have Hp := Lib.hid hp
      have Hall := Lib.hid hall
      have Hpn := Lib.hid hpn
      have Han := Lib.hid han
      clear hp hall hpn han hcell
      go_wp2
      rw [decide_eq_true (show k < n by omega)]
      go_loopg [6, 8] pn (fun gk at_ v wr => ∃ (A4 : Option Addr) (c4 t : Nat), v = .slice A4 gk c4 ∧ gk ≤ c4 ∧ gk ≤ pn ∧ at_ = .int .i64 t ∧ Aside (t = (all ++ p.take (pn - gk)).length % 64) ∧ Cells w A4 (bv (p.drop (pn - gk))) ∧ ShOW w wr G (all ++ p.take (pn - gk)))
      case atStart =>
        refine ⟨b, cb, an % 64, rfl, hcb, Nat.le_refl _, rfl, ?_, ?_, ?_⟩
        · show an % 64 = _
          rw [Nat.sub_self, List.take_zero, List.append_nil, Han.out]
        · rw [Nat.sub_self, List.drop_zero]; exact hb
        · rw [Nat.sub_self, List.take_zero, List.append_nil]; exact hO
      case round =>
        clear hO hcell'
        obtain ⟨A4, c4, t, rfl, hgc, hgn, rfl, hat, hc4, hO⟩ := hrel
        rcases Nat.eq_zero_or_pos gk with h0 | hgp
        · subst h0
          go_wp2
          go_roundg j
          case measure => omega
          case rel =>
            refine ⟨k + 1, by omega, by go_num, ?_, ?_, ?_⟩
            · rw [hlen, ← Hpn.out, ← Han.out]; rfl
            · rw [show t = _ from hat, ← hfe, Nat.sub_zero, Hpn.out, List.take_length]
            · rw [← hfe]
              rw [Nat.sub_zero, Hpn.out, List.take_length] at hO
              exact hO
        · obtain ⟨q, hq⟩ : ∃ q, q = all ++ p.take (pn - gk) := ⟨_, rfl⟩
          rw [← hq] at hO
          have ht64 : t < 64 := by rw [show t = _ from hat]; omega
          have hq2 : t = q.length % 64 := by rw [hq]; exact hat
          have Hq := Lib.hid hq
          have Hq2 := Lib.hid hq2
          clear hq hq2
          have hlen4 : (p.drop (pn - gk)).length = gk := by rw [List.length_drop, ← Hpn.out]; omega
          obtain ⟨rest, hrest⟩ : ∃ rest, rest = p.drop (pn - gk) := ⟨_, rfl⟩
          rw [← hrest] at hlen4 hc4
          have Hrest := Lib.hid hrest
          clear hrest
          obtain ⟨B, hL, hB⟩ := hO.buf
          rcases Nat.lt_or_ge gk (64 - t) with hpart | hfull
          · have hmin : gk = min gk (64 - t) := by omega
            have Hmin := Lib.hid hmin
            clear hmin
            have hne : ¬ 64 = t := by omega
            have hgi : (0 : Int) < (gk : Int) := by omega
            have hsl := run_slice_arr (P := Tryd.prog) wr 150 5 64 Tryd.underlying150 (by kernel_rfl) G t ht64 .i64
            go_wp2_with (refine wpList_copy_buf rfl (.tmp 28) (.tmp 29) rfl t (64 - t) (64 - t) rfl A4 gk c4 rest rfl hlen4 hgp (hc4.ext hO.ext) hB (by rw [hL.1]; omega) gk Hmin.out ?_; intro w5 hB5 hg5)
            have hcut := cut_cells (c := c4) (k := gk) hc4 (by rw [bv_len, hlen4, Nat.mul_one]) (Nat.le_refl _) hgc
            simp only [Nat.mul_one] at hcut
            have ewr : IntKind.i64.wrap ((t : Int) + (gk : Int)) = ((t + gk : Nat) : Int) := by rw [IntKind.wrap_i64]; omega
            go_quiet (fail)
            obtain ⟨hc6, _⟩ := hcut
            try rw [ewr]
            generalize (if c4 = gk then A4 else Option.map (fun x => x.add gk) A4) = A6 at hc6 ⊢
            clear ewr
            have ht6 : t + gk < 64 := by omega
            obtain ⟨l1, l2, l3⟩ := left_more hL rest gk hlen4.symm (by rw [← Hq2.out]; omega)
            rw [← Hq2.out] at l1 l3
            have hO5 := hO.turn hg5 hB5 l1 l2
            go_wp2
            go_roundg 0
            case measure => omega
            case rel =>
              have e9 : q ++ rest = all ++ p.take (pn - 0) := by rw [Hq.out, Hrest.out, List.append_assoc, List.take_append_drop, Nat.sub_zero, Hpn.out, List.take_length]
              refine ⟨A6, c4 - gk, t + gk, rfl, Nat.zero_le _, Nat.zero_le _, rfl, ?_, ?_, ?_⟩
              · show t + gk = _
                rw [← e9, l3]
              · rw [Nat.sub_zero, Hpn.out, List.drop_length]
                exact Cells.nil _ _
              · rw [← e9]
                exact hO5.drewN nq
          · obtain ⟨m, hm⟩ : ∃ m, m = 64 - t := ⟨_, rfl⟩
            have hmin : m = min gk (64 - t) := by omega
            have hmr : m ≤ gk := by omega
            have hmp : 0 < m := by omega
            have hmt : t + m = 64 := by omega
            have Hmin := Lib.hid hmin
            have Hmt := Lib.hid hmt
            clear hmin hm hmt
            have hne : ¬ 64 = t := by omega
            have hgi : (0 : Int) < (gk : Int) := by omega
            have hsl := run_slice_arr (P := Tryd.prog) wr 150 5 64 Tryd.underlying150 (by kernel_rfl) G t ht64 .i64
            go_wp2_with (refine wpList_copy_buf rfl (.tmp 28) (.tmp 29) rfl t (64 - t) (64 - t) rfl A4 gk c4 rest rfl hlen4 hgp (hc4.ext hO.ext) hB (by rw [hL.1]; omega) m Hmin.out ?_; intro w5 hB5 hg5)
            have hcut := cut_cells (c := c4) (k := m) hc4 (by rw [bv_len, hlen4, Nat.mul_one]) hmr hgc
            simp only [Nat.mul_one] at hcut
            have ewr : IntKind.i64.wrap ((t : Int) + (m : Int)) = 64 := by rw [IntKind.wrap_i64]; have := Hmt.out; omega
            go_quiet (fail)
            obtain ⟨hc6, _⟩ := hcut
            try rw [ewr]
            generalize (if c4 = m then A4 else Option.map (fun x => x.add m) A4) = A6 at hc6 ⊢
            clear ewr
            obtain ⟨l0, l1, l2, l3⟩ := left_full hL rest m (by omega) (by rw [← Hq2.out]; exact Hmt.out) _ rfl
            rw [← Hq2.out] at l0 l1 l2
            have hx5 : Ext w (w5.drewN nq) := (hO.ext.grown_ hg5 (by have := hO.lt; simp; omega)).drewN nq
            have hst5 : Blk (w5.drewN nq) (w.heap.size + 1) 149 (stv (whole q)) := (hO.st.grown hg5 (by have := hO.lt; simp; omega)).drewN nq
            have hB6 : Buf (w5.drewN nq) G 150 _ := hB5
            go_wp2_with (go_at_call 89; ((with_reducible refine (block_calls _ _ _ 64 (Nat.le_refl _) _ _ hst5 hB6.cells l0 (hT.ext hx5)).mono ?_); rintro e w7 ⟨rfl, hg7, hb7⟩))
            go_roundg (gk - m)
            case measure => omega
            case rel =>
              have e9 : q ++ rest.take m = all ++ p.take (pn - (gk - m)) := by rw [Hq.out, Hrest.out, List.append_assoc, Hpn.out, take_more (by rw [← Hpn.out]; exact hgn) hmr]
              have hlt5 := hO.lt
              refine ⟨A6, c4 - m, 0, rfl, by omega, by omega, rfl, ?_, ?_, ?_⟩
              · show 0 = _
                rw [← e9]
                exact l3.symm
              · rw [bv_drop, Hrest.out, List.drop_drop] at hc6
                rw [show pn - (gk - m) = pn - gk + m by omega]
                exact hc6
              · rw [← e9]
                refine ⟨hx5.grown_ hg7 (by simp), ?_, by rw [l2]; exact hb7, ⟨_, l1, Blk.grown hB6 hg7 (by simp; omega)⟩, hO.lt⟩
                obtain ⟨z, e, bz⟩ := hO.res
                exact ⟨z, e, ((bz.grown hg5 (by simp; omega)).drewN nq).grown hg7 (by simp)⟩
    | zero =>
      obtain rfl : k = n := by omega
      have hall : xs.take k = xs := by rw [← hn, List.take_length]
      rw [hall] at hO hfl ⊢
      clear hall hk hfl
      obtain ⟨all, hal⟩ : ∃ all, all = xs.flatten := ⟨_, rfl⟩
      rw [← hal] at hO ht ⊢
      obtain ⟨nn, hnn⟩ : ∃ nn, nn = all.length := ⟨_, rfl⟩
      obtain ⟨t, hte⟩ : ∃ t, t = nn % 64 := ⟨_, rfl⟩
      rw [← hnn] at ht ⊢
      rw [← hte]
      have ht64 : t < 64 := by omega
      have Hal := Lib.hid hal
      have Hnn := Lib.hid hnn
      have Hte := Lib.hid hte
      clear hal hnn hte
      obtain ⟨hx, hres, hst, ⟨B, hL, hB⟩, hlt⟩ := hO
      have hfr := Blk.frozen hB t
      have hcell := hB.cell (k := t) (by rw [hL.1]; exact ht64)
      have hsl := fun w9 => run_slice_arr_le (P := Tryd.prog) w9 150 5 64 Tryd.underlying150 (by kernel_rfl) G (t + 1) (by omega) .i64
      obtain ⟨ad, had⟩ : ∃ ad : Addr, ad = (if 64 = t + 1 then ⟨G, 0, none⟩ else ⟨G, t + 1, none⟩) := ⟨_, rfl⟩
      rw [← had, show 64 - (t + 1) = 64 - 1 - t by omega] at hsl
      rw [show ((t + 1 : Nat) : Int) = (t : Int) + 1 by omega] at hsl
      have had' : 64 - 1 - t = 0 ∨ ad = ⟨G, t + 1, none⟩ := by
        rcases Nat.eq_or_lt_of_le ht64 with e | e
        · exact .inl (by omega)
        · refine .inr ?_
          rw [had, if_neg (by omega)]
      clear had
      have hB1 : Buf (wr.setCell ⟨G, t, none⟩ (.int .u8 128)) G 150 (B.set t 128) := hB.set t 128
      have hg1 : wr.grownBy (wr.setCell ⟨G, t, none⟩ (.int .u8 128)) (some G) := grown_set wr G t _
      have hfit : t + 1 + (64 - 1 - t) ≤ (B.set t 128).length := by rw [List.length_set, hL.1]; omega
      obtain ⟨cc, hcc⟩ : ∃ cc, cc = 64 - 1 - t := ⟨_, rfl⟩
      have hX0 : OX w wr G (whole all) := ⟨hx, hres, hst, hlt⟩
      have hX1 := hX0.keep hg1
      have hlB := hL.1
      clear hX0 hg1
      rcases Nat.lt_or_ge t 56 with hlo | hhi
      · have hfin : comp (whole all) ((B.take t ++ 128 :: List.replicate (64 - 1 - t) 0).take 56 ++ be8 nn) = final all := by
          have e := pad_lo hL (by rw [← Hnn.out, ← Hte.out]; exact hlo)
          rw [← Hnn.out, ← Hte.out] at e
          rw [b8_take B t hlB hlo, List.append_assoc, List.cons_append]
          exact e
        have hl8 : (B.take t ++ 128 :: List.replicate (64 - 1 - t) (0 : UInt8)).length = 64 := by simp [hlB]; omega
        go_wp2_with (refine wpList_clear_buf rfl (.tmp 46) rfl ad (t + 1) (64 - 1 - t) (64 - 1 - t) rfl had' hB1 hfit ?_; intro w6 hB6 hg6)
        have hX8 := hX1.keep hg6
        have hB8 := hB6
        rw [set_clear B 64 t 128 hlB ht64] at hB8
        clear hB6 hg6 hX1 hB1
        obtain ⟨S8, hS8⟩ : ∃ S8, S8 = whole all := ⟨_, rfl⟩
        rw [← hS8] at hX8 hfin
        obtain ⟨B8, hB8e⟩ : ∃ B8, B8 = B.take t ++ 128 :: List.replicate (64 - 1 - t) 0 := ⟨_, rfl⟩
        rw [← hB8e] at hB8 hfin hl8
        clear hS8 hB8e
        have Hfin := Lib.hid hfin
        clear hfin
        have hM0 : Blk w6 G 150 (upTo 64 56 (eF B8 nn) (eZ B8)) := by rw [e_start B8 nn hl8]; exact hB8
        go_loopw [52] (fun i wq => ∃ i0 : Nat, i0 ≤ 8 ∧ i = .int .i64 i0 ∧ OX w wq G S8 ∧ Blk wq G 150 (upTo 64 (56 + i0) (eF B8 nn) (eZ B8))) (fun i _ => 8 - (intOf i).toNat)
        case atStart => exact ⟨0, by omega, rfl, hX8, hM0⟩
        case round =>
          clear hM0 hX8 hB8
          obtain ⟨i0, hi8, rfl, hX9, hM⟩ := hrel
          by_cases hlt9 : i0 < 8
          · have hfr9 := hM.frozen (56 + i0)
            have hcell9 := (hM.cell (56 + i0)).trans (upTo_new (Nat.le_refl (56 + i0)) (show 56 + i0 < 64 by omega))
            unfold eZ at hcell9
            go_wp2
            go_roundw
            case rel =>
              have ev : Value.int .u8 ((nn : Int) * 8 / 2 ^ (56 - 8 * i0) % 256) = eF B8 nn (56 + i0) := by rw [e_val B8 nn i0 hl8 hlt9]; rfl
              have hs := hM.set (56 + i0) (eF B8 nn (56 + i0))
              rw [upTo_set (by omega)] at hs
              rw [ev]
              exact ⟨i0 + 1, by omega, by go_num, hX9.keep (grown_set wr G _ _), hs⟩
            case measure => simp [intOf]; omega
          · obtain rfl : i0 = 8 := by omega
            have hB9 : Buf wr G 150 (B8.take 56 ++ be8 nn) := by unfold Buf; rw [← e_end B8 nn hl8]; exact hM
            rw [show ((8 : Nat) : Int) = 8 from rfl]
            go_wp2_with (go_at_call 89; ((with_reducible refine (block_calls _ _ _ 64 (Nat.le_refl _) _ _ hX9.st hB9.cells (e_len B8 nn hl8) (hT.ext hX9.ext)).mono ?_); rintro e w7 ⟨rfl, hg7, hb7⟩))
            have hX10 := hX9.turn hg7 hb7
            rw [Hfin.out] at hX10
            obtain ⟨S, hS⟩ : ∃ S, S = final all := ⟨_, rfl⟩
            rw [← hS] at hX10
            have HS := Lib.hid hS
            obtain ⟨D, hD2⟩ : ∃ D, D = w7.heap.size := ⟨_, rfl⟩
            have hDlt := hX10.st.lt
            have hD : DW w (w7.alloc (.cells ((List.range 32).map fun _ => Value.int .u8 0).toArray 25)) D S 0 :=
              ⟨hX10.ext.alloc _, let ⟨z, e, b⟩ := hX10.res; ⟨z, e, b.alloc _⟩, by rw [dcs, upTo_none]; exact Blk.new_at hD2.symm _ _, by omega⟩
            have hS11 : Blk (w7.alloc (.cells ((List.range 32).map fun _ => Value.int .u8 0).toArray 25)) (w.heap.size + 1) 149 (stv S) := hX10.st.alloc _
            rw [← hD2]
            have hDne : w.heap.size + 1 ≠ D := by omega
            clear hS hD2 hX9 hX10 hM hB9 hg7 hb7 hDlt
            go_loopw [69] (fun i wq => ∃ i0 : Nat, i0 ≤ 32 ∧ i = .int .i64 i0 ∧ DW w wq D S i0 ∧ Blk wq (w.heap.size + 1) 149 (stv S)) (fun i _ => 32 - (intOf i).toNat)
            case atStart => exact ⟨0, by omega, rfl, hD, hS11⟩
            case round =>
              clear hD hS11
              obtain ⟨i0, hi9, rfl, hD, hS11⟩ := hrel
              by_cases hlt0 : i0 < 32
              · have hfr9 := hD.out.frozen i0
                have hcell9 := (hD.out.cell i0).trans (upTo_new (Nat.le_refl i0) hlt0)
                have hst9 := (hS11.cell (i0 / 4)).trans (stv_get S (i0 / 4) (by omega))
                go_wp2
                go_roundw
                case rel =>
                  have ev : ((S.at (i0 / 4)).toNat : Int) / 2 ^ (24 - 8 * (i0 % 4)) % 256 = ((dby S i0).toNat : Int) := by unfold dby; rw [UInt8.toNat_ofNat']; rfl
                  rw [ev]
                  exact ⟨i0 + 1, by omega, by go_num, hD.step hlt0, hS11.far hDne _⟩
                case measure => simp [intOf]; omega
              · obtain rfl : i0 = 32 := by omega
                obtain ⟨hx9, ⟨z, hz, hR⟩, hO, _⟩ := hD
                go_wp2_with (first
                  | (refine wpList_load_blk rfl 25 (.tmp 11) rfl D rfl _ _ _ hO Tryd.underlying25 rfl (by kernel_rfl) ?_)
                  | (refine wpList_store_blk rfl 25 (.tmp 2) (.tmp 85) rfl rfl w.heap.size _ rfl rfl _ _ hR (by rw [hz]; exact upTo_size) (by rw [hz]; kernel_rfl) ?_ ?_; (rw [dcs_all]; exact bv_cells _); intro w9 hb9 hg9))
                rw [dcs_all, HS.out, Hal.out] at hb9
                exact bodyPost_ret (results_cell_row (P := Tryd.prog) (fn := Tryd.f58) rfl _ _ _ _ (bv (sha xs.flatten)).toArray _ _ rfl hb9 Tryd.underlying25 rfl (by kernel_rfl)) rfl ⟨rfl, hx9.grown_ hg9 (by simp)⟩
      · have hfin : comp (comp (whole all) (B.take t ++ 128 :: List.replicate (64 - 1 - t) 0)) ((List.replicate 64 (0 : UInt8)).take 56 ++ be8 nn) = final all := by
          have e := pad_hi hL (by rw [← Hnn.out, ← Hte.out]; exact hhi)
          rw [← Hnn.out, ← Hte.out] at e
          exact e
        have hl1 : (B.take t ++ 128 :: List.replicate (64 - 1 - t) (0 : UInt8)).length = 64 := by simp [hlB]; omega
        have hl8 : (List.replicate 64 (0 : UInt8)).length = 64 := by simp
        have hhi' : (56 : Int) ≤ (t : Int) := by omega
        have hGne : w.heap.size + 1 ≠ G := by omega
        go_wp2_with (first
          | (refine wpList_clear_buf rfl (.tmp 46) rfl ad (t + 1) (64 - 1 - t) (64 - 1 - t) rfl had' hB1 hfit ?_; intro w6 hB6 hg6; have hX6 := hX1.keep hg6; rw [set_clear B 64 t 128 hlB ht64] at hB6; clear hg6)
          | (go_at_call 89; ((with_reducible refine (block_calls _ _ _ 64 (Nat.le_refl _) _ _ hX6.st hB6.cells hl1 (hT.ext hX6.ext)).mono ?_); rintro e w7 ⟨rfl, hg7, hb7⟩; have hX7 := hX6.turn hg7 hb7; have hB7 : Buf w7 G 150 _ := Blk.grown hB6 hg7 (by simp; omega); clear hb7 hg7))
          | (refine wpList_clear_buf rfl (.tmp 51) rfl ⟨G, 0, none⟩ 0 64 64 rfl (.inr rfl) hB7 (by rw [hl1]; decide) ?_; intro w8 hB8 hg8; have hX8 := hX7.keep hg8; clear hg8))
        rw [List.take_zero, List.nil_append, List.drop_of_length_le (by rw [hl1]; decide), List.append_nil] at hB8
        clear hB6 hX6 hX7 hB7 hX1 hB1
        obtain ⟨S8, hS8⟩ : ∃ S8, S8 = comp (whole all) (B.take t ++ 128 :: List.replicate (64 - 1 - t) 0) := ⟨_, rfl⟩
        rw [← hS8] at hX8 hfin
        obtain ⟨B8, hB8e⟩ : ∃ B8, B8 = List.replicate 64 (0 : UInt8) := ⟨_, rfl⟩
        rw [← hB8e] at hB8 hfin hl8
        clear hS8 hB8e
        have Hfin := Lib.hid hfin
        clear hfin
        have hM0 : Blk w8 G 150 (upTo 64 56 (eF B8 nn) (eZ B8)) := by rw [e_start B8 nn hl8]; exact hB8
        go_loopw [52] (fun i wq => ∃ i0 : Nat, i0 ≤ 8 ∧ i = .int .i64 i0 ∧ OX w wq G S8 ∧ Blk wq G 150 (upTo 64 (56 + i0) (eF B8 nn) (eZ B8))) (fun i _ => 8 - (intOf i).toNat)
        case atStart => exact ⟨0, by omega, rfl, hX8, hM0⟩
        case round =>
          clear hM0 hX8 hB8
          obtain ⟨i0, hi8, rfl, hX9, hM⟩ := hrel
          by_cases hlt9 : i0 < 8
          · have hfr9 := hM.frozen (56 + i0)
            have hcell9 := (hM.cell (56 + i0)).trans (upTo_new (Nat.le_refl (56 + i0)) (show 56 + i0 < 64 by omega))
            unfold eZ at hcell9
            go_wp2
            go_roundw
            case rel =>
              have ev : Value.int .u8 ((nn : Int) * 8 / 2 ^ (56 - 8 * i0) % 256) = eF B8 nn (56 + i0) := by rw [e_val B8 nn i0 hl8 hlt9]; rfl
              have hs := hM.set (56 + i0) (eF B8 nn (56 + i0))
              rw [upTo_set (by omega)] at hs
              rw [ev]
              exact ⟨i0 + 1, by omega, by go_num, hX9.keep (grown_set wr G _ _), hs⟩
            case measure => simp [intOf]; omega
          · obtain rfl : i0 = 8 := by omega
            have hB9 : Buf wr G 150 (B8.take 56 ++ be8 nn) := by unfold Buf; rw [← e_end B8 nn hl8]; exact hM
            rw [show ((8 : Nat) : Int) = 8 from rfl]
            go_wp2_with (go_at_call 89; ((with_reducible refine (block_calls _ _ _ 64 (Nat.le_refl _) _ _ hX9.st hB9.cells (e_len B8 nn hl8) (hT.ext hX9.ext)).mono ?_); rintro e w7 ⟨rfl, hg7, hb7⟩))
            have hX10 := hX9.turn hg7 hb7
            rw [Hfin.out] at hX10
            obtain ⟨S, hS⟩ : ∃ S, S = final all := ⟨_, rfl⟩
            rw [← hS] at hX10
            have HS := Lib.hid hS
            obtain ⟨D, hD2⟩ : ∃ D, D = w7.heap.size := ⟨_, rfl⟩
            have hDlt := hX10.st.lt
            have hD : DW w (w7.alloc (.cells ((List.range 32).map fun _ => Value.int .u8 0).toArray 25)) D S 0 :=
              ⟨hX10.ext.alloc _, let ⟨z, e, b⟩ := hX10.res; ⟨z, e, b.alloc _⟩, by rw [dcs, upTo_none]; exact Blk.new_at hD2.symm _ _, by omega⟩
            have hS11 : Blk (w7.alloc (.cells ((List.range 32).map fun _ => Value.int .u8 0).toArray 25)) (w.heap.size + 1) 149 (stv S) := hX10.st.alloc _
            rw [← hD2]
            have hDne : w.heap.size + 1 ≠ D := by omega
            clear hS hD2 hX9 hX10 hM hB9 hg7 hb7 hDlt
            go_loopw [69] (fun i wq => ∃ i0 : Nat, i0 ≤ 32 ∧ i = .int .i64 i0 ∧ DW w wq D S i0 ∧ Blk wq (w.heap.size + 1) 149 (stv S)) (fun i _ => 32 - (intOf i).toNat)
            case atStart => exact ⟨0, by omega, rfl, hD, hS11⟩
            case round =>
              clear hD hS11
              obtain ⟨i0, hi9, rfl, hD, hS11⟩ := hrel
              by_cases hlt0 : i0 < 32
              · have hfr9 := hD.out.frozen i0
                have hcell9 := (hD.out.cell i0).trans (upTo_new (Nat.le_refl i0) hlt0)
                have hst9 := (hS11.cell (i0 / 4)).trans (stv_get S (i0 / 4) (by omega))
                go_wp2
                go_roundw
                case rel =>
                  have ev : ((S.at (i0 / 4)).toNat : Int) / 2 ^ (24 - 8 * (i0 % 4)) % 256 = ((dby S i0).toNat : Int) := by unfold dby; rw [UInt8.toNat_ofNat']; rfl
                  rw [ev]
                  exact ⟨i0 + 1, by omega, by go_num, hD.step hlt0, hS11.far hDne _⟩
                case measure => simp [intOf]; omega
              · obtain rfl : i0 = 32 := by omega
                obtain ⟨hx9, ⟨z, hz, hR⟩, hO, _⟩ := hD
                go_wp2_with (first
                  | (refine wpList_load_blk rfl 25 (.tmp 11) rfl D rfl _ _ _ hO Tryd.underlying25 rfl (by kernel_rfl) ?_)
                  | (refine wpList_store_blk rfl 25 (.tmp 2) (.tmp 85) rfl rfl w.heap.size _ rfl rfl _ _ hR (by rw [hz]; exact upTo_size) (by rw [hz]; kernel_rfl) ?_ ?_; (rw [dcs_all]; exact bv_cells _); intro w9 hb9 hg9))
                rw [dcs_all, HS.out, Hal.out] at hb9
                exact bodyPost_ret (results_cell_row (P := Tryd.prog) (fn := Tryd.f58) rfl _ _ _ _ (bv (sha xs.flatten)).toArray _ _ rfl hb9 Tryd.underlying25 rfl (by kernel_rfl)) rfl ⟨rfl, hx9.grown_ hg9 (by simp)⟩
end Go.Proofs.YtcnhbodemabbdaaDoor
