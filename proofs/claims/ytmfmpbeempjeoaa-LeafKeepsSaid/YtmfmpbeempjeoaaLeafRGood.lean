/- The walk of the reference's Good, layer 7. -/
import Derived.Test.YtmfmpbeempjeoaaLeafGood
namespace Go.Proofs.Ytmfmpbeempjeoaa
open Go.RowKit
set_option linter.unusedVariables false

theorem leq_not (p s : List UInt8) (h : Op.bytesLess p s = true) : (Op.bytesLess s p || s == p) = false := by rw [← less_total, h]; rfl
theorem leq_of (p s : List UInt8) (h : Op.bytesLess p s = false) : (Op.bytesLess s p || s == p) = true := by rw [← less_total, h]; rfl

/-- The shape is wrong. -/
theorem refGood_shape (n : Nd) (ka va da : Option Addr) (K V D kc vc dc : Nat) (w : World) (h : NdAt w n ka va da K V D kc vc dc) (hs : n.shape = false) :
    Calls Try.prog 11 #[nda n.leaf ka K kc va V vc da D dc] w fun e w' => e = .returned (.bool false) ∧ Ext w w' := by
  have hK := h.bk
  have hwr : wrap64 ((K : Int) + 1) = (K : Int) + 1 := by unfold wrap64; omega
  unfold Nd.shape at hs
  rw [h.hk, h.hv, h.hd] at hs
  cases hl : n.leaf with
  | true =>
    rw [hl] at hs
    by_cases h2 : D = 0
    · have h1 : ¬ V = K := by simpa [h2] using hs
      have h1' : ¬ (V : Int) = (K : Int) := by omega
      clear hs h
      subst h2
      go_enter Try.func11, Try.ntmps11
      go_wp2
      go_ret
      exact ⟨rfl, (Ext.refl _).alloc _⟩
    · have h2' : (0 : Int) < (D : Int) := by omega
      clear hs h
      go_enter Try.func11, Try.ntmps11
      go_wp2
      go_ret
      exact ⟨rfl, (Ext.refl _).alloc _⟩
  | false =>
    rw [hl] at hs
    by_cases h2 : V = 0
    · have h1 : ¬ D = K + 1 := by simpa [h2] using hs
      have h1' : ¬ (D : Int) = (K : Int) + 1 := by omega
      clear hs h
      subst h2
      go_enter Try.func11, Try.ntmps11
      go_wp2
      go_ret
      exact ⟨rfl, (Ext.refl _).alloc _⟩
    · have h2' : (0 : Int) < (V : Int) := by omega
      clear hs h
      go_enter Try.func11, Try.ntmps11
      go_wp2
      go_ret
      exact ⟨rfl, (Ext.refl _).alloc _⟩

theorem good_bad_kid {n : Nd} (hg : n.good = (n.keysOk && (n.valsOk && n.kidsOk))) {j : Nat} (hj : j < n.kids.length) (h : kidOk n.kids[j] = false) : n.good = false := by
  have e : n.kidsOk = false := by
    unfold Nd.kidsOk
    rw [List.all_eq_false]
    exact ⟨n.kids[j], List.getElem_mem hj, by rw [h]; simp⟩
  rw [hg, e]; simp
theorem kids_all {n : Nd} (h : ∀ p ∈ n.kids, kidOk p = true) : n.kidsOk = true := by
  unfold Nd.kidsOk
  rw [List.all_eq_true]
  exact h

set_option maxHeartbeats 8000000 in
theorem refGood_calls (n : Nd) (ka va da : Option Addr) (K V D kc vc dc : Nat) (w : World) (h : NdAt w n ka va da K V D kc vc dc) :
    Calls Try.prog 11 #[nda n.leaf ka K kc va V vc da D dc] w fun e w' => e = .returned (.bool n.good) ∧ Ext w w' := by
  cases hsh : n.shape with
  | false =>
    have e : n.good = false := by unfold Nd.good; rw [hsh]; rfl
    rw [e]
    exact refGood_shape n ka va da K V D kc vc dc w h hsh
  | true =>
    have hg : n.good = (n.keysOk && (n.valsOk && n.kidsOk)) := by unfold Nd.good; rw [hsh]; rfl
    have hK := h.bk
    have hV := h.bv_
    have hD := h.bd_
    have hwr : wrap64 ((K : Int) + 1) = (K : Int) + 1 := by unfold wrap64; omega
    unfold Nd.shape at hsh
    rw [h.hk, h.hv, h.hd] at hsh
    have Hg := Lib.hid hg
    have Hh := Lib.hid h
    clear hg h
    cases hl : n.leaf with
    | true =>
      rw [hl] at hsh
      simp only [if_true, Bool.and_eq_true, beq_iff_eq] at hsh
      obtain ⟨rfl, rfl⟩ := hsh
      go_enter Try.func11, Try.ntmps11
      go_wp2
      have hbox : Blk (w.alloc (.cells #[.bool true, .slice ka V kc, .slice va V vc, .slice da 0 dc] 25)) w.heap.size 25 #[.bool true, .slice ka V kc, .slice va V vc, .slice da 0 dc] := Blk.new w _ _
      have hx0 : Ext w (w.alloc (.cells #[.bool true, .slice ka V kc, .slice va V vc, .slice da 0 dc] 25)) := (Ext.refl _).alloc _
      generalize w.alloc (.cells #[.bool true, .slice ka V kc, .slice va V vc, .slice da 0 dc] 25) = w0 at hbox hx0 ⊢
      have b1 : w0.cell? ⟨w.heap.size, 1, none⟩ = some (.slice ka V kc) := hbox.cell 1
      have b2 : w0.cell? ⟨w.heap.size, 2, none⟩ = some (.slice va V vc) := hbox.cell 2
      have b3 : w0.cell? ⟨w.heap.size, 3, none⟩ = some (.slice da 0 dc) := hbox.cell 3
      clear hbox
      go_loopw [40] (fun i wr => ∃ k : Nat, k ≤ V ∧ i = .int .i64 k ∧ Aside (∀ i, i < k → n.keyOk i = true) ∧ Ext w0 wr) (fun i _ => V - (intOf i).toNat)
      case atStart => exact ⟨0, by omega, rfl, fun i h => absurd h (by omega), Ext.refl _⟩
      case round =>
        obtain ⟨k, hk, rfl, hall, hxr⟩ := hrel
        have b1 := hxr.cell b1
        have hx0 := hx0.trans hxr
        by_cases hlt : k < V
        · have hlk : k < n.keys.length := by rw [Hh.out.hk]; exact hlt
          obtain ⟨x, hx, hcell⟩ := (Hh.out.ck.ext hx0) k _ (sv_get hlk)
          subst hx
          have hsz := Hh.out.sk _ (List.getElem_mem hlk)
          have ek : n.keys.getD k ByteArray.empty = n.keys[k] := getD_of' _ _ hlk
          have hbad : n.keyOk k = false → n.good = false := fun h => good_bad_key Hg.out hlk h
          have hok : n.keyOk k = true → ∀ i, i < k + 1 → n.keyOk i = true := fun h i hi => by
            rcases Nat.lt_or_ge i k with h1 | h1
            · exact hall i h1
            · obtain rfl : i = k := by omega
              exact h
          have hdef : n.keyOk k = (decide ((n.keys[k]).size ≤ 48) && (k == 0 || slt (n.keys.getD (k - 1) ByteArray.empty) n.keys[k])) := by unfold Nd.keyOk; rw [ek]
          generalize n.keys[k] = s at hcell hsz hdef
          have Hok := Lib.hid hok
          have Hdef := Lib.hid hdef
          have Hbad := Lib.hid hbad
          clear hok hdef hbad ek hall
          by_cases h48 : 48 < s.size
          · have h48' : (48 : Int) < (s.size : Int) := by omega
            go_wp2
            go_ret
            exact ⟨by rw [Hbad.out (by rw [Hdef.out]; simp; omega)]; rfl, hx0⟩
          have h48' : ¬ (48 : Int) < (s.size : Int) := by omega
          rcases Nat.eq_zero_or_pos k with hk0 | hk0
          · subst hk0
            rw [add_zero] at hcell
            go_wp2
            go_quiet (fail)
            go_wp2
            go_roundw
            case rel => exact ⟨1, by omega, rfl, Hok.out (by rw [Hdef.out]; simp; omega), hxr.drewN _⟩
            case measure => simp [intOf]; omega
          · obtain ⟨j, rfl⟩ : ∃ j, k = j + 1 := ⟨k - 1, by omega⟩
            have hlj : j < n.keys.length := by omega
            obtain ⟨y, hy, hcell2⟩ := (Hh.out.ck.ext hx0) j _ (sv_get hlj)
            cases hy
            have ej : n.keys.getD (j + 1 - 1) ByteArray.empty = n.keys[j] := getD_of' _ _ hlj
            have Ej := Lib.hid ej
            clear ej
            have hdef2 : n.keyOk (j + 1) = (decide (s.size ≤ 48) && ((j + 1) == 0 || slt n.keys[j] s)) := by rw [Hdef.out, Ej.out]
            have Hdef2 := Lib.hid hdef2
            clear hdef2
            generalize n.keys[j] = p at hcell2 Hdef2
            have hcell' : wr.cell? ⟨x.block, x.off + (j + 1), none⟩ = some (.string s) := hcell
            have e1 : ((j + 1 : Nat) : Int) - 1 = (j : Int) := by omega
            have hpos : (0 : Int) < ((j + 1 : Nat) : Int) := by omega
            cases hb : Op.bytesLess p.toList s.toList with
            | true =>
              have hle := leq_not _ _ hb
              go_wp2
              go_quiet (fail)
              go_wp2
              go_roundw
              case rel => exact ⟨j + 1 + 1, by omega, by go_num, Hok.out (by rw [Hdef2.out, slt, hb]; simp; omega), hxr.drewN _⟩
              case measure => simp [intOf]; omega
            | false =>
              have hle := leq_of _ _ hb
              go_wp2
              go_quiet (fail)
              go_wp2
              go_ret
              exact ⟨by rw [Hbad.out (by rw [Hdef2.out, slt, hb]; simp)]; rfl, hx0.drewN _⟩
        · obtain rfl : k = V := by omega
          have hkeys : n.keysOk = true := keys_all Hh.out.hk hall
          have Hkeys := Lib.hid hkeys
          have b2 := hxr.cell b2
          have b3 := hxr.cell b3
          clear hall hkeys hlt hk
          go_wp2
          go_loop [70] (fun i => ∃ j : Nat, j ≤ k ∧ i = .int .i64 j ∧ Aside (∀ v ∈ n.vals.take j, v.size ≤ 160)) (fun i => k - (intOf i).toNat)
          case atStart => exact ⟨0, by omega, rfl, fun v hv => by simp at hv⟩
          case round =>
            obtain ⟨j, hj, rfl, hall⟩ := hrel
            by_cases hlt : j < k
            · have hlv : j < n.vals.length := by rw [Hh.out.hv]; exact hlt
              obtain ⟨x, hx, hcell⟩ := (Hh.out.cv.ext hx0) j _ (sv_get hlv)
              subst hx
              have hsz := Hh.out.sv_ _ (List.getElem_mem hlv)
              have hbad : 160 < (n.vals[j]).size → n.good = false := fun h => good_bad_val Hg.out Hkeys.out hlv h
              have hok : (n.vals[j]).size ≤ 160 → ∀ v ∈ n.vals.take (j + 1), v.size ≤ 160 := fun h v hv => by
                rw [List.take_succ_eq_append_getElem hlv, List.mem_append, List.mem_singleton] at hv
                rcases hv with hv | rfl
                · exact hall v hv
                · exact h
              generalize n.vals[j] = s at hcell hsz hbad hok
              have Hok := Lib.hid hok
              have Hbad := Lib.hid hbad
              clear hok hbad hall
              by_cases h160 : 160 < s.size
              · have h160' : (160 : Int) < (s.size : Int) := by omega
                go_wp2
                go_ret
                exact ⟨by rw [Hbad.out h160]; rfl, hx0⟩
              · have h160' : ¬ (160 : Int) < (s.size : Int) := by omega
                go_wp2
                go_round
                case rel => exact ⟨j + 1, by omega, by go_num, Hok.out (by omega)⟩
                case measure => simp [intOf]; omega
            · obtain rfl : j = k := by omega
              have hvals : n.valsOk = true := vals_all (by rw [← Hh.out.hv, List.take_length] at hall; exact hall)
              have Hvals := Lib.hid hvals
              clear hall hvals hlt hj
              go_wp2
              have hkids : n.kidsOk = true := kids_all (by have e : n.kids = [] := List.eq_nil_of_length_eq_zero Hh.out.hd; rw [e]; intro v hv; simp at hv)
              have Hkids := Lib.hid hkids
              clear hkids
              go_loop [81] (fun i => i = .int .i64 0) (fun i => 0)
              case atStart => rfl
              case round =>
                subst hrel
                go_wp2
                go_ret
                refine ⟨?_, hx0⟩
                have e : n.good = true := by rw [Hg.out, Hkeys.out, Hvals.out, Hkids.out]; rfl
                rw [e]; rfl
    | false =>
      rw [hl] at hsh
      simp only [Bool.false_eq_true, if_false, Bool.and_eq_true, beq_iff_eq] at hsh
      obtain ⟨rfl, rfl⟩ := hsh
      go_enter Try.func11, Try.ntmps11
      go_wp2
      have hbox : Blk (w.alloc (.cells #[.bool false, .slice ka K kc, .slice va 0 vc, .slice da (K + 1) dc] 25)) w.heap.size 25 #[.bool false, .slice ka K kc, .slice va 0 vc, .slice da (K + 1) dc] := Blk.new w _ _
      have hx0 : Ext w (w.alloc (.cells #[.bool false, .slice ka K kc, .slice va 0 vc, .slice da (K + 1) dc] 25)) := (Ext.refl _).alloc _
      generalize w.alloc (.cells #[.bool false, .slice ka K kc, .slice va 0 vc, .slice da (K + 1) dc] 25) = w0 at hbox hx0 ⊢
      have b1 : w0.cell? ⟨w.heap.size, 1, none⟩ = some (.slice ka K kc) := hbox.cell 1
      have b2 : w0.cell? ⟨w.heap.size, 2, none⟩ = some (.slice va 0 vc) := hbox.cell 2
      have b3 : w0.cell? ⟨w.heap.size, 3, none⟩ = some (.slice da (K + 1) dc) := hbox.cell 3
      clear hbox
      go_loopw [40] (fun i wr => ∃ k : Nat, k ≤ K ∧ i = .int .i64 k ∧ Aside (∀ i, i < k → n.keyOk i = true) ∧ Ext w0 wr) (fun i _ => K - (intOf i).toNat)
      case atStart => exact ⟨0, by omega, rfl, fun i h => absurd h (by omega), Ext.refl _⟩
      case round =>
        obtain ⟨k, hk, rfl, hall, hxr⟩ := hrel
        have b1 := hxr.cell b1
        have hx0 := hx0.trans hxr
        by_cases hlt : k < K
        · have hlk : k < n.keys.length := by rw [Hh.out.hk]; exact hlt
          obtain ⟨x, hx, hcell⟩ := (Hh.out.ck.ext hx0) k _ (sv_get hlk)
          subst hx
          have hsz := Hh.out.sk _ (List.getElem_mem hlk)
          have ek : n.keys.getD k ByteArray.empty = n.keys[k] := getD_of' _ _ hlk
          have hbad : n.keyOk k = false → n.good = false := fun h => good_bad_key Hg.out hlk h
          have hok : n.keyOk k = true → ∀ i, i < k + 1 → n.keyOk i = true := fun h i hi => by
            rcases Nat.lt_or_ge i k with h1 | h1
            · exact hall i h1
            · obtain rfl : i = k := by omega
              exact h
          have hdef : n.keyOk k = (decide ((n.keys[k]).size ≤ 48) && (k == 0 || slt (n.keys.getD (k - 1) ByteArray.empty) n.keys[k])) := by unfold Nd.keyOk; rw [ek]
          generalize n.keys[k] = s at hcell hsz hdef
          have Hok := Lib.hid hok
          have Hdef := Lib.hid hdef
          have Hbad := Lib.hid hbad
          clear hok hdef hbad ek hall
          by_cases h48 : 48 < s.size
          · have h48' : (48 : Int) < (s.size : Int) := by omega
            go_wp2
            go_ret
            exact ⟨by rw [Hbad.out (by rw [Hdef.out]; simp; omega)]; rfl, hx0⟩
          have h48' : ¬ (48 : Int) < (s.size : Int) := by omega
          rcases Nat.eq_zero_or_pos k with hk0 | hk0
          · subst hk0
            rw [add_zero] at hcell
            go_wp2
            go_quiet (fail)
            go_wp2
            go_roundw
            case rel => exact ⟨1, by omega, rfl, Hok.out (by rw [Hdef.out]; simp; omega), hxr.drewN _⟩
            case measure => simp [intOf]; omega
          · obtain ⟨j, rfl⟩ : ∃ j, k = j + 1 := ⟨k - 1, by omega⟩
            have hlj : j < n.keys.length := by omega
            obtain ⟨y, hy, hcell2⟩ := (Hh.out.ck.ext hx0) j _ (sv_get hlj)
            cases hy
            have ej : n.keys.getD (j + 1 - 1) ByteArray.empty = n.keys[j] := getD_of' _ _ hlj
            have Ej := Lib.hid ej
            clear ej
            have hdef2 : n.keyOk (j + 1) = (decide (s.size ≤ 48) && ((j + 1) == 0 || slt n.keys[j] s)) := by rw [Hdef.out, Ej.out]
            have Hdef2 := Lib.hid hdef2
            clear hdef2
            generalize n.keys[j] = p at hcell2 Hdef2
            have hcell' : wr.cell? ⟨x.block, x.off + (j + 1), none⟩ = some (.string s) := hcell
            have e1 : ((j + 1 : Nat) : Int) - 1 = (j : Int) := by omega
            have hpos : (0 : Int) < ((j + 1 : Nat) : Int) := by omega
            cases hb : Op.bytesLess p.toList s.toList with
            | true =>
              have hle := leq_not _ _ hb
              go_wp2
              go_quiet (fail)
              go_wp2
              go_roundw
              case rel => exact ⟨j + 1 + 1, by omega, by go_num, Hok.out (by rw [Hdef2.out, slt, hb]; simp; omega), hxr.drewN _⟩
              case measure => simp [intOf]; omega
            | false =>
              have hle := leq_of _ _ hb
              go_wp2
              go_quiet (fail)
              go_wp2
              go_ret
              exact ⟨by rw [Hbad.out (by rw [Hdef2.out, slt, hb]; simp)]; rfl, hx0.drewN _⟩
        · obtain rfl : k = K := by omega
          have hkeys : n.keysOk = true := keys_all Hh.out.hk hall
          have Hkeys := Lib.hid hkeys
          have b2 := hxr.cell b2
          have b3 := hxr.cell b3
          clear hall hkeys hlt hk
          go_wp2
          have hvals : n.valsOk = true := vals_all (by have e : n.vals = [] := List.eq_nil_of_length_eq_zero Hh.out.hv; rw [e]; intro v hv; simp at hv)
          have Hvals := Lib.hid hvals
          clear hvals
          go_loop [70] (fun i => i = .int .i64 0) (fun i => 0)
          case atStart => rfl
          case round =>
              subst hrel
              go_wp2
              go_loop [81] (fun i => ∃ q : Nat, q ≤ (k + 1) ∧ i = .int .i64 q ∧ Aside (∀ p ∈ n.kids.take q, kidOk p = true)) (fun i => (k + 1) - (intOf i).toNat)
              case atStart => exact ⟨0, by omega, rfl, fun v hv => by simp at hv⟩
              case round =>
                obtain ⟨q, hq, rfl, hall⟩ := hrel
                by_cases hlt : q < (k + 1)
                · have hlq : q < n.kids.length := by rw [Hh.out.hd]; exact hlt
                  obtain ⟨x, hx, hcell⟩ := (Hh.out.cd.ext hx0) q _ (iv_get hlq)
                  subst hx
                  have hbad : kidOk n.kids[q] = false → n.good = false := fun h => good_bad_kid Hg.out hlq h
                  have hok : kidOk n.kids[q] = true → ∀ p ∈ n.kids.take (q + 1), kidOk p = true := fun h v hv => by
                    rw [List.take_succ_eq_append_getElem hlq, List.mem_append, List.mem_singleton] at hv
                    rcases hv with hv | rfl
                    · exact hall v hv
                    · exact h
                  generalize n.kids[q] = p at hcell hbad hok
                  have Hok := Lib.hid hok
                  have Hbad := Lib.hid hbad
                  clear hok hbad hall
                  by_cases h1 : p ≤ 0
                  · go_wp2
                    go_ret
                    exact ⟨by rw [Hbad.out (by unfold kidOk; simp; omega)]; rfl, hx0⟩
                  by_cases h2 : 4095 < p
                  · go_wp2
                    go_ret
                    exact ⟨by rw [Hbad.out (by unfold kidOk; simp; omega)]; rfl, hx0⟩
                  · go_wp2
                    go_round
                    case rel => exact ⟨q + 1, by omega, by go_num, Hok.out (by unfold kidOk; simp; omega)⟩
                    case measure => simp [intOf]; omega
                · obtain rfl : q = (k + 1) := by omega
                  have hkids : n.kidsOk = true := kids_all (by rw [← Hh.out.hd, List.take_length] at hall; exact hall)
                  go_wp2
                  go_ret
                  refine ⟨?_, hx0⟩
                  have e : n.good = true := by rw [Hg.out, Hkeys.out, Hvals.out, hkids]; rfl
                  rw [e]; rfl
end Go.Proofs.Ytmfmpbeempjeoaa
