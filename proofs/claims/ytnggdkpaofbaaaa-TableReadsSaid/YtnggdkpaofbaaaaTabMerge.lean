/- table.Merge: tables put together. -/
import Derived.Test.YtnggdkpaofbaaaaTabDel2
namespace Go.Proofs.Ytnggdkpaofbaaaa
open Go.RowKit Go.Shelf
set_option linter.unusedVariables false

def tptr (p : Nat) : Value := .pointer (some ⟨p, 0, none⟩)
def mrg (b : Bool) (ls : List (List W3)) : List W3 := if b then (tabOf ls.flatten).filter keepW else tabOf ls.flatten
theorem own_tab_ne {B p m : Nat} {w : World} {v : Value} {vs : Array Value} {l : List Value} (h : w.ownsRow B 46 3 v m l) (hb : Blk w p 66 vs) : v.ownBlock ≠ some p := by
  rcases h.2 with ⟨rfl, _⟩ | ⟨g1, cap, cur, rfl, _, hgg, _⟩
  · intro e
    cases e
  · intro e
    have e1 : g1 = p := Option.some.inj e
    subst e1
    have h1 : w.heap[g1]? = some (.cells vs 66) := hb
    rw [hgg] at h1
    cases h1
set_option maxRecDepth 50000 in
set_option maxHeartbeats 8000000 in
theorem merge_calls (b : Bool) (q : List (Nat × List W3)) (A : Option Addr) (n c : Nat) (w : World) (hc : Cells w A (q.map fun t => tptr t.1)) (hn : q.length = n) (ht : ∀ t ∈ q, TabAt 0 w t.1 t.2) (hl : (q.map (·.2)).flatten.length ≤ 1000000) (hn9 : n ≤ 1000000) :
    Calls Try.prog 27 #[.bool b, .slice A n c] w fun e w' => ∃ p, e = .returned (.pointer (some ⟨p, 0, none⟩)) ∧ w.heap.size ≤ p ∧ TabAt w.heap.size w' p (mrg b (q.map (·.2))) ∧ Ext w w' := by
  have HC := Lib.hid hc
  have HN := Lib.hid hn
  have HT := Lib.hid ht
  have HL := Lib.hid hl
  clear hc hn ht hl
  go_enter Try.func27, Try.ntmps27
  go_upto_region 3 with (fail)
  go_loopw [11, 5] (fun i u wr => ∃ (k : Nat), k ≤ n ∧ i = .int .i64 k ∧ Hid (OwnW w.heap.size wr u ((q.take k).map (·.2)).flatten) ∧ Ext w wr) (fun i _ _ => n - (intOf i).toNat)
  case atStart => exact ⟨0, Nat.zero_le _, rfl, Lib.hid (OwnW.nil _ _), Ext.refl _⟩
  case round =>
    obtain ⟨k, hk, rfl, HO, hx⟩ := hrel
    obtain ⟨A5, c5, rfl, _, _, hc5⟩ := HO.out.form
    have HC5 := Lib.hid hc5
    clear hc5
    by_cases hlt : k < n
    · have hkl : k < q.length := by rw [HN.out]; exact hlt
      obtain ⟨t, hte⟩ : ∃ t, t = q[k] := ⟨_, rfl⟩
      have htm : t ∈ q := by rw [hte]; exact List.getElem_mem hkl
      have htk : ((q.take (k + 1)).map (·.2)).flatten = ((q.take k).map (·.2)).flatten ++ t.2 := by rw [List.take_succ_eq_append_getElem hkl, ← hte]; simp
      obtain ⟨L, hL⟩ : ∃ L, L = ((q.take k).map (·.2)).flatten := ⟨_, rfl⟩
      rw [← hL] at HO HC5 htk ⊢
      have hLt : L.length + t.2.length ≤ 1000000 := by
        have h1 : (q.map (·.2)).flatten = (L ++ t.2) ++ ((q.drop (k + 1)).map (·.2)).flatten := by rw [← htk, ← List.flatten_append, ← List.map_append, List.take_append_drop]
        have h2 := HL.out
        rw [h1, List.length_append, List.length_append] at h2
        omega
      obtain ⟨ad, rfl, hcell0⟩ := HC.out k (tptr t.1) (by rw [List.getElem?_map, List.getElem?_eq_getElem hkl, ← hte]; rfl)
      have hcell : wr.cell? (ad.add k) = some (.pointer (some ⟨t.1, 0, none⟩)) := hx.cell hcell0
      have htab := HT.out t htm
      obtain ⟨p, l⟩ := t
      have hall := all_calls 0 p l wr (htab.ext hx) (by have : L.length + l.length ≤ 1000000 := hLt; omega)
      have hll : L.length + l.length ≤ 1000000 := hLt
      have HTK : Hid (((q.take (k + 1)).map (·.2)).flatten = L ++ l) := Lib.hid htk
      have HALL := Lib.hid hall
      clear hcell0 htab htk hte htm hkl hL hall hLt
      have hp0 : (0 : Int) ≤ (k : Int) := by omega
      have hp1 : (k : Int) < (n : Int) := by omega
      go_upto_region 6 with (first
        | (go_at_call 20; (with_reducible refine HALL.out.mono ?_); rintro e w4 ⟨v4, rfl, ho4, hx4⟩; obtain ⟨A4, c4, rfl, _, _, hc4⟩ := ho4.form)
        | (at_builtin; refine wpList_append_w _ rfl (.tmp 15) (.tmp 17) rfl w.heap.size (.slice A5 L.length c5) L rfl (HO.out.ext hx4) A4 l.length c4 l rfl rfl hc4 (by omega) (Nat.le_trans hx.size hx4.size) ?_; intro v5 w5 ho5 hg5 _))
      have hx5 : Ext w w5 := (hx.trans hx4).grown_ hg5 (fun j e => (own_lt (HO.out.ext hx4) e).1)
      rw [← HTK.out] at ho5
      have HO5 := Lib.hid ho5
      clear ho5 hg5 hx4 hc4 ho4
      go_wp2
      go_roundw
      case rel => exact ⟨k + 1, by omega, by go_num, HO5, hx5⟩
      case measure => simp [intOf]; omega
    · obtain rfl : n = k := by omega
      have hL : ((q.take n).map (·.2)).flatten = (q.map (·.2)).flatten := by rw [← HN.out, List.take_length]
      rw [hL] at HO HC5 ⊢
      obtain ⟨L, hL2⟩ : ∃ L, L = (q.map (·.2)).flatten := ⟨_, rfl⟩
      have hLl : L.length ≤ 1000000 := by rw [hL2]; exact HL.out
      rw [← hL2] at HO HC5 ⊢
      have HMR : Hid (mrg b (q.map (·.2)) = bif b then (tabOf L).filter keepW else tabOf L) := Lib.hid (by rw [hL2]; cases b <;> rfl)
      have hof := of_calls L A5 L.length c5 wr (row_of_cells HC5.out) rfl hLl
      have HOF := Lib.hid hof
      clear hL hL2 hof
      go_upto_region 8 with (first
        | (go_at_call 11; (with_reducible refine HOF.out.mono ?_); rintro e w6 ⟨p, rfl, hp, htab, hx6⟩))
      obtain ⟨A6, c6, hb6, ho6⟩ := htab
      have hpw : w.heap.size ≤ p := Nat.le_trans hx.size hp
      have HB6 := Lib.hid hb6
      have HO6 := Lib.hid ho6
      have hx6' : Ext w w6 := hx.trans hx6
      have HLT := Lib.hid (Nat.le_trans (tabOf_len L) hLl)
      obtain ⟨Lw, hLw⟩ : ∃ Lw, Lw = tabOf L := ⟨_, rfl⟩
      rw [← hLw] at HO6 HB6 HMR HLT
      clear hLw hb6 ho6
      cases b with
      | false =>
        go_wp2
        go_ret
        refine ⟨p, rfl, hpw, ?_, hx6'⟩
        rw [HMR.out]
        exact ⟨A6, c6, HB6.out, own_lower HO6.out hx.size⟩
      | true =>
        have hc0 : w6.cell? ⟨p, 0, none⟩ = some (.slice A6 Lw.length c6) := by rw [HB6.out.cell]; rfl
        have hdel := del_calls wr.heap.size w6 A6 Lw.length c6 Lw HO6.out rfl HLT.out
        have HDEL := Lib.hid hdel
        clear hdel
        have hne := own_tab_ne HO6.out HB6.out
        go_wp2_with (first
          | (go_at_call 65; ((with_reducible refine HDEL.out.mono ?_); rintro e w7 ⟨m, rfl, hm, ho7, hg7⟩; have hb7 := HB6.out.grown hg7 (Ne.symm hne); have cc7 : w7.cell? ⟨p, 0, none⟩ = some (.slice A6 Lw.length c6) := (by rw [hb7.cell]; rfl); have ff7 : w7.frozen? ⟨p, 0, none⟩ = false := hb7.frozen 0)))
        go_ret
        have hne7 : (Value.slice A6 m c6).ownBlock ≠ some p := own_tab_ne ho7 hb7
        have hg8 := grown_set w7 p 0 (.slice A6 m c6)
        have hx7 : Ext w w7 := hx6'.grown_ hg7 (fun j e => Nat.le_trans hx.size (own_lt HO6.out e).1)
        have hx8 := hx7.grown_ hg8 (fun j e => by cases e; exact hpw)
        have hb8 := hb7.set 0 (.slice A6 m c6)
        have ho8 := World.ownsRow.kept ho7 hg8 (.inr hne7)
        refine ⟨p, rfl, hpw, ?_, hx8⟩
        rw [HMR.out]
        refine ⟨A6, c6, ?_, ?_⟩
        · rw [cond_true, hm]
          exact hb8
        · rw [cond_true, hm]
          exact own_lower ho8 hx.size
end Go.Proofs.Ytnggdkpaofbaaaa
