/- The walks of layer 7: Good, of the code. -/
import Derived.Test.YtmfmpbeempjeoaaLeafPure
import Derived.Test.YtmfmpbeempjeoaaAppend
import Derived.Test.YtmfmpbeempjeoaaArr
import Derived.Test.YtmfmpbeempjeoaaOpenInts
namespace Go.Proofs.Ytmfmpbeempjeoaa
open Go.RowKit
set_option linter.unusedVariables false

/-- Strings as values. -/
def sv (xs : List ByteArray) : List Value := xs.map Value.string
theorem sv_get {xs : List ByteArray} {k : Nat} (h : k < xs.length) : (sv xs)[k]? = some (.string xs[k]) := by simp [sv, h]

/-- A node's parts in memory. -/
structure NdAt (w : World) (n : Nd) (ka va da : Option Addr) (K V D kc vc dc : Nat) : Prop where
  hk : n.keys.length = K
  hv : n.vals.length = V
  hd : n.kids.length = D
  lk : K ≤ kc
  lv : V ≤ vc
  ld : D ≤ dc
  ck : Cells w ka (sv n.keys)
  cv : Cells w va (sv n.vals)
  cd : Cells w da (iv n.kids)
  bk : K ≤ 140737488351232
  bv_ : V ≤ 140737488351232
  bd_ : D ≤ 140737488351232
  sk : ∀ s ∈ n.keys, s.size ≤ 140737488351232
  sv_ : ∀ s ∈ n.vals, s.size ≤ 140737488351232
  bd : ∀ p ∈ n.kids, -9223372036854775808 ≤ p ∧ p ≤ 9223372036854775807
theorem NdAt.ext {w w' : World} {n : Nd} {ka va da : Option Addr} {K V D kc vc dc : Nat} (h : NdAt w n ka va da K V D kc vc dc) (k : Ext w w') : NdAt w' n ka va da K V D kc vc dc :=
  ⟨h.hk, h.hv, h.hd, h.lk, h.lv, h.ld, h.ck.ext k, h.cv.ext k, h.cd.ext k, h.bk, h.bv_, h.bd_, h.sk, h.sv_, h.bd⟩
/-- A node as the model's value. -/
abbrev nda (l : Bool) (ka : Option Addr) (K kc : Nat) (va : Option Addr) (V vc : Nat) (da : Option Addr) (D dc : Nat) : Value := .agg #[.bool l, .slice ka K kc, .slice va V vc, .slice da D dc]

theorem index_calls (da : Option Addr) (D dc : Nat) (xs : List Int) (w : World) (hc : Cells w da (iv xs)) (hD : xs.length = D) (hm : D ≤ 140737488351232) :
    Calls Try.prog 33 #[.slice da D dc, .func (.func 20) #[] #[]] w fun e w' => (∃ r : Int, e = .returned (.int .i64 r) ∧ decide (0 ≤ r) = !xs.all kidOk) ∧ w = w' := by
  have HD := Lib.hid hD
  clear hD
  go_enter Try.func33, Try.ntmps33
  go_wp2
  go_loop [8] (fun i => ∃ k : Nat, k ≤ D ∧ i = .int .i64 k ∧ Aside ((xs.take k).all kidOk = true)) (fun i => D - (intOf i).toNat)
  case atStart => exact ⟨0, by omega, rfl, rfl⟩
  case round =>
    obtain ⟨k, hk, rfl, hall⟩ := hrel
    by_cases hlt : k < D
    · have hlx : k < xs.length := by rw [HD.out]; exact hlt
      obtain ⟨x, rfl, hcell⟩ := hc k _ (iv_get hlx)
      have hst : (xs.take (k + 1)).all kidOk = kidOk xs[k] := by
        rw [List.take_succ_eq_append_getElem hlx, List.all_append, show (xs.take k).all kidOk = true from hall]
        simp
      have hst2 : kidOk xs[k] = false → xs.all kidOk = false := fun h => by
        rw [List.all_eq_false]
        exact ⟨xs[k], List.getElem_mem hlx, by rw [h]; simp⟩
      generalize xs[k] = p at hcell hst hst2
      have Hst := Lib.hid hst
      clear hst
      by_cases h1 : p < 1
      · have hb := hst2 (by unfold kidOk; simp; omega)
        clear hst2
        go_wp2
        go_ret
        exact ⟨⟨_, rfl, by first | omega | (rw [hb]; simp)⟩, rfl⟩
      by_cases h2 : 4096 ≤ p
      · have hb := hst2 (by unfold kidOk; simp; omega)
        clear hst2
        go_wp2
        go_ret
        exact ⟨⟨_, rfl, by first | omega | (rw [hb]; simp)⟩, rfl⟩
      · clear hst2
        go_wp2
        go_round
        case rel => exact ⟨k + 1, by omega, by go_num, (show (xs.take (k + 1)).all kidOk = true from by rw [Hst.out, kidOk]; simp; omega)⟩
        case measure => simp [intOf]; omega
    · obtain rfl : k = D := by omega
      have ha : (xs.take k).all kidOk = true := hall
      rw [← HD.out, List.take_length] at ha
      go_wp2
      go_ret
      exact ⟨⟨_, rfl, by first | omega | decide | (rw [ha]; simp)⟩, rfl⟩

theorem contains_calls (da : Option Addr) (D dc : Nat) (xs : List Int) (w : World) (hc : Cells w da (iv xs)) (hD : xs.length = D) (hm : D ≤ 140737488351232) :
    Calls Try.prog 19 #[.slice da D dc, .func (.func 20) #[] #[]] w fun e w' => e = .returned (.bool (!xs.all kidOk)) ∧ w = w' := by
  go_enter Try.func19, Try.ntmps19
  go_wp2_with (go_at_call 33; ((with_reducible refine (index_calls da D dc xs _ hc hD hm).mono ?_); rintro e w' ⟨⟨r, rfl, hr⟩, rfl⟩; have Hr := Lib.hid hr; clear hr))
  go_ret
  exact ⟨ret_bool Hr.out, rfl⟩

theorem getD_of' {α : Type} (l : List α) (d : α) {i : Nat} (h : i < l.length) : l.getD i d = l[i] := by
  rw [List.getD_eq_getElem?_getD, List.getElem?_eq_getElem h]; rfl
theorem good_bad_key {n : Nd} (hg : n.good = (n.keysOk && (n.valsOk && n.kidsOk))) {k : Nat} (hk : k < n.keys.length) (h : n.keyOk k = false) : n.good = false := by
  have e : n.keysOk = false := by
    unfold Nd.keysOk
    rw [List.all_eq_false]
    exact ⟨k, List.mem_range.2 hk, by rw [h]; simp⟩
  rw [hg, e]; rfl
theorem keys_all {n : Nd} {K : Nat} (hk : n.keys.length = K) (h : ∀ i, i < K → n.keyOk i = true) : n.keysOk = true := by
  unfold Nd.keysOk
  rw [List.all_eq_true]
  intro i hi
  exact h i (by rw [← hk]; exact List.mem_range.1 hi)

theorem good_bad_val {n : Nd} (hg : n.good = (n.keysOk && (n.valsOk && n.kidsOk))) (hk : n.keysOk = true) {j : Nat} (hj : j < n.vals.length) (h : 160 < (n.vals[j]).size) : n.good = false := by
  have e : n.valsOk = false := by
    unfold Nd.valsOk
    rw [List.all_eq_false]
    exact ⟨n.vals[j], List.getElem_mem hj, by simp; omega⟩
  rw [hg, hk, e]; rfl
theorem vals_all {n : Nd} (h : ∀ v ∈ n.vals, v.size ≤ 160) : n.valsOk = true := by
  unfold Nd.valsOk
  rw [List.all_eq_true]
  intro v hv
  simpa using h v hv

/-- The shape is wrong. -/
theorem good_shape (n : Nd) (ka va da : Option Addr) (K V D kc vc dc : Nat) (w : World) (h : NdAt w n ka va da K V D kc vc dc) (hs : n.shape = false) :
    Calls Try.prog 12 #[nda n.leaf ka K kc va V vc da D dc] w fun e w' => e = .returned (.bool false) ∧ Ext w w' := by
  have hK := h.bk
  have hwr : wrap64 ((K : Int) + 1) = (K : Int) + 1 := by unfold wrap64; omega
  unfold Nd.shape at hs
  rw [h.hk, h.hv, h.hd] at hs
  cases hl : n.leaf with
  | true =>
    rw [hl] at hs
    by_cases h1 : V = K
    · have h2 : ¬ D = 0 := by simpa [h1] using hs
      have h1' : (V : Int) = (K : Int) := by omega
      have h2' : ¬ (D : Int) = 0 := by omega
      clear hs h
      subst h1
      go_enter Try.func12, Try.ntmps12
      go_wp2
      go_ret
      exact ⟨rfl, (Ext.refl _).alloc _⟩
    · have h1' : ¬ (V : Int) = (K : Int) := by omega
      clear hs h
      go_enter Try.func12, Try.ntmps12
      go_wp2
      go_ret
      exact ⟨rfl, (Ext.refl _).alloc _⟩
  | false =>
    rw [hl] at hs
    by_cases h1 : D = K + 1
    · have h2 : ¬ V = 0 := by simpa [h1] using hs
      have h2' : ¬ (V : Int) = 0 := by omega
      clear hs h
      subst h1
      go_enter Try.func12, Try.ntmps12
      go_wp2
      go_ret
      exact ⟨rfl, (Ext.refl _).alloc _⟩
    · have h1' : ¬ (D : Int) = (K : Int) + 1 := by omega
      clear hs h
      go_enter Try.func12, Try.ntmps12
      go_wp2
      go_ret
      exact ⟨rfl, (Ext.refl _).alloc _⟩

set_option maxHeartbeats 8000000 in
theorem good_calls (n : Nd) (ka va da : Option Addr) (K V D kc vc dc : Nat) (w : World) (h : NdAt w n ka va da K V D kc vc dc) :
    Calls Try.prog 12 #[nda n.leaf ka K kc va V vc da D dc] w fun e w' => e = .returned (.bool n.good) ∧ Ext w w' := by
  cases hsh : n.shape with
  | false =>
    have e : n.good = false := by unfold Nd.good; rw [hsh]; rfl
    rw [e]
    exact good_shape n ka va da K V D kc vc dc w h hsh
  | true =>
    have hg : n.good = (n.keysOk && (n.valsOk && n.kidsOk)) := by unfold Nd.good; rw [hsh]; rfl
    have hK := h.bk
    have hV := h.bv_
    have hD := h.bd_
    have hwr : wrap64 ((K : Int) + 1) = (K : Int) + 1 := by unfold wrap64; omega
    unfold Nd.shape at hsh
    rw [h.hk, h.hv, h.hd] at hsh
    have Hg := Lib.hid hg
    have Hh := Lib.hid h
    clear hg h
    cases hl : n.leaf with
    | true =>
      rw [hl] at hsh
      simp only [if_true, Bool.and_eq_true, beq_iff_eq] at hsh
      obtain ⟨rfl, rfl⟩ := hsh
      go_enter Try.func12, Try.ntmps12
      go_wp2
      have hbox : Blk (w.alloc (.cells #[.bool true, .slice ka V kc, .slice va V vc, .slice da 0 dc] 25)) w.heap.size 25 #[.bool true, .slice ka V kc, .slice va V vc, .slice da 0 dc] := Blk.new w _ _
      have hx0 : Ext w (w.alloc (.cells #[.bool true, .slice ka V kc, .slice va V vc, .slice da 0 dc] 25)) := (Ext.refl _).alloc _
      generalize w.alloc (.cells #[.bool true, .slice ka V kc, .slice va V vc, .slice da 0 dc] 25) = w0 at hbox hx0 ⊢
      have b1 : w0.cell? ⟨w.heap.size, 1, none⟩ = some (.slice ka V kc) := hbox.cell 1
      have b2 : w0.cell? ⟨w.heap.size, 2, none⟩ = some (.slice va V vc) := hbox.cell 2
      have b3 : w0.cell? ⟨w.heap.size, 3, none⟩ = some (.slice da 0 dc) := hbox.cell 3
      clear hbox
      go_loop [48] (fun i => ∃ k : Nat, k ≤ V ∧ i = .int .i64 k ∧ Aside (∀ i, i < k → n.keyOk i = true)) (fun i => V - (intOf i).toNat)
      case atStart => exact ⟨0, by omega, rfl, fun i h => absurd h (by omega)⟩
      case round =>
        obtain ⟨k, hk, rfl, hall⟩ := hrel
        by_cases hlt : k < V
        · have hlk : k < n.keys.length := by rw [Hh.out.hk]; exact hlt
          obtain ⟨x, hx, hcell⟩ := (Hh.out.ck.ext hx0) k _ (sv_get hlk)
          subst hx
          have hsz := Hh.out.sk _ (List.getElem_mem hlk)
          have ek : n.keys.getD k ByteArray.empty = n.keys[k] := getD_of' _ _ hlk
          have hbad : n.keyOk k = false → n.good = false := fun h => good_bad_key Hg.out hlk h
          have hok : n.keyOk k = true → ∀ i, i < k + 1 → n.keyOk i = true := fun h i hi => by
            rcases Nat.lt_or_ge i k with h1 | h1
            · exact hall i h1
            · obtain rfl : i = k := by omega
              exact h
          have hdef : n.keyOk k = (decide ((n.keys[k]).size ≤ 48) && (k == 0 || slt (n.keys.getD (k - 1) ByteArray.empty) n.keys[k])) := by unfold Nd.keyOk; rw [ek]
          generalize n.keys[k] = s at hcell hsz hdef
          have Hok := Lib.hid hok
          have Hdef := Lib.hid hdef
          have Hbad := Lib.hid hbad
          clear hok hdef hbad ek hall
          by_cases h48 : 48 < s.size
          · have h48' : (48 : Int) < (s.size : Int) := by omega
            go_wp2
            go_ret
            exact ⟨by rw [Hbad.out (by rw [Hdef.out]; simp; omega)]; rfl, hx0⟩
          have h48' : ¬ (48 : Int) < (s.size : Int) := by omega
          rcases Nat.eq_zero_or_pos k with hk0 | hk0
          · subst hk0
            rw [add_zero] at hcell
            go_wp2
            go_round
            case rel => exact ⟨1, by omega, rfl, Hok.out (by rw [Hdef.out]; simp; omega)⟩
            case measure => simp [intOf]; omega
          · obtain ⟨j, rfl⟩ : ∃ j, k = j + 1 := ⟨k - 1, by omega⟩
            have hlj : j < n.keys.length := by omega
            obtain ⟨y, hy, hcell2⟩ := (Hh.out.ck.ext hx0) j _ (sv_get hlj)
            cases hy
            have ej : n.keys.getD (j + 1 - 1) ByteArray.empty = n.keys[j] := getD_of' _ _ hlj
            have Ej := Lib.hid ej
            clear ej
            have hdef2 : n.keyOk (j + 1) = (decide (s.size ≤ 48) && ((j + 1) == 0 || slt n.keys[j] s)) := by rw [Hdef.out, Ej.out]
            have Hdef2 := Lib.hid hdef2
            clear hdef2
            generalize n.keys[j] = p at hcell2 Hdef2
            have hcell' : w0.cell? ⟨x.block, x.off + (j + 1), none⟩ = some (.string s) := hcell
            have e1 : ((j + 1 : Nat) : Int) - 1 = (j : Int) := by omega
            have hpos : (0 : Int) < ((j + 1 : Nat) : Int) := by omega
            cases hb : Op.bytesLess p.toList s.toList with
            | true =>
              go_wp2
              go_round
              case rel => exact ⟨j + 1 + 1, by omega, by go_num, Hok.out (by rw [Hdef2.out, slt, hb]; simp; omega)⟩
              case measure => simp [intOf]; omega
            | false =>
              go_wp2
              go_ret
              exact ⟨by rw [Hbad.out (by rw [Hdef2.out, slt, hb]; simp)]; rfl, hx0⟩
        · obtain rfl : k = V := by omega
          have hkeys : n.keysOk = true := keys_all Hh.out.hk hall
          have Hkeys := Lib.hid hkeys
          clear hall hkeys hlt hk
          go_wp2
          go_loop [74] (fun i => ∃ j : Nat, j ≤ k ∧ i = .int .i64 j ∧ Aside (∀ v ∈ n.vals.take j, v.size ≤ 160)) (fun i => k - (intOf i).toNat)
          case atStart => exact ⟨0, by omega, rfl, fun v hv => by simp at hv⟩
          case round =>
            obtain ⟨j, hj, rfl, hall⟩ := hrel
            by_cases hlt : j < k
            · have hlv : j < n.vals.length := by rw [Hh.out.hv]; exact hlt
              obtain ⟨x, hx, hcell⟩ := (Hh.out.cv.ext hx0) j _ (sv_get hlv)
              subst hx
              have hsz := Hh.out.sv_ _ (List.getElem_mem hlv)
              have hbad : 160 < (n.vals[j]).size → n.good = false := fun h => good_bad_val Hg.out Hkeys.out hlv h
              have hok : (n.vals[j]).size ≤ 160 → ∀ v ∈ n.vals.take (j + 1), v.size ≤ 160 := fun h v hv => by
                rw [List.take_succ_eq_append_getElem hlv, List.mem_append, List.mem_singleton] at hv
                rcases hv with hv | rfl
                · exact hall v hv
                · exact h
              generalize n.vals[j] = s at hcell hsz hbad hok
              have Hok := Lib.hid hok
              have Hbad := Lib.hid hbad
              clear hok hbad hall
              by_cases h160 : 160 < s.size
              · have h160' : (160 : Int) < (s.size : Int) := by omega
                go_wp2
                go_ret
                exact ⟨by rw [Hbad.out h160]; rfl, hx0⟩
              · have h160' : ¬ (160 : Int) < (s.size : Int) := by omega
                go_wp2
                go_round
                case rel => exact ⟨j + 1, by omega, by go_num, Hok.out (by omega)⟩
                case measure => simp [intOf]; omega
            · obtain rfl : j = k := by omega
              have hvals : n.valsOk = true := vals_all (by rw [← Hh.out.hv, List.take_length] at hall; exact hall)
              have Hvals := Lib.hid hvals
              clear hall hvals hlt hj
              go_wp2_with (go_at_call 19; ((with_reducible refine (contains_calls da 0 dc n.kids _ (Hh.out.cd.ext hx0) Hh.out.hd Hh.out.bd_).mono ?_); rintro e w' ⟨rfl, rfl⟩))
              go_ret
              refine ⟨?_, hx0⟩
              have e : n.good = n.kids.all kidOk := by rw [Hg.out, Hkeys.out, Hvals.out]; rfl
              rw [e]
              exact ret_bool (by simp)
    | false =>
      rw [hl] at hsh
      simp only [Bool.false_eq_true, if_false, Bool.and_eq_true, beq_iff_eq] at hsh
      obtain ⟨rfl, rfl⟩ := hsh
      go_enter Try.func12, Try.ntmps12
      go_wp2
      have hbox : Blk (w.alloc (.cells #[.bool false, .slice ka K kc, .slice va 0 vc, .slice da (K + 1) dc] 25)) w.heap.size 25 #[.bool false, .slice ka K kc, .slice va 0 vc, .slice da (K + 1) dc] := Blk.new w _ _
      have hx0 : Ext w (w.alloc (.cells #[.bool false, .slice ka K kc, .slice va 0 vc, .slice da (K + 1) dc] 25)) := (Ext.refl _).alloc _
      generalize w.alloc (.cells #[.bool false, .slice ka K kc, .slice va 0 vc, .slice da (K + 1) dc] 25) = w0 at hbox hx0 ⊢
      have b1 : w0.cell? ⟨w.heap.size, 1, none⟩ = some (.slice ka K kc) := hbox.cell 1
      have b2 : w0.cell? ⟨w.heap.size, 2, none⟩ = some (.slice va 0 vc) := hbox.cell 2
      have b3 : w0.cell? ⟨w.heap.size, 3, none⟩ = some (.slice da (K + 1) dc) := hbox.cell 3
      clear hbox
      go_loop [48] (fun i => ∃ k : Nat, k ≤ K ∧ i = .int .i64 k ∧ Aside (∀ i, i < k → n.keyOk i = true)) (fun i => K - (intOf i).toNat)
      case atStart => exact ⟨0, by omega, rfl, fun i h => absurd h (by omega)⟩
      case round =>
        obtain ⟨k, hk, rfl, hall⟩ := hrel
        by_cases hlt : k < K
        · have hlk : k < n.keys.length := by rw [Hh.out.hk]; exact hlt
          obtain ⟨x, hx, hcell⟩ := (Hh.out.ck.ext hx0) k _ (sv_get hlk)
          subst hx
          have hsz := Hh.out.sk _ (List.getElem_mem hlk)
          have ek : n.keys.getD k ByteArray.empty = n.keys[k] := getD_of' _ _ hlk
          have hbad : n.keyOk k = false → n.good = false := fun h => good_bad_key Hg.out hlk h
          have hok : n.keyOk k = true → ∀ i, i < k + 1 → n.keyOk i = true := fun h i hi => by
            rcases Nat.lt_or_ge i k with h1 | h1
            · exact hall i h1
            · obtain rfl : i = k := by omega
              exact h
          have hdef : n.keyOk k = (decide ((n.keys[k]).size ≤ 48) && (k == 0 || slt (n.keys.getD (k - 1) ByteArray.empty) n.keys[k])) := by unfold Nd.keyOk; rw [ek]
          generalize n.keys[k] = s at hcell hsz hdef
          have Hok := Lib.hid hok
          have Hdef := Lib.hid hdef
          have Hbad := Lib.hid hbad
          clear hok hdef hbad ek hall
          by_cases h48 : 48 < s.size
          · have h48' : (48 : Int) < (s.size : Int) := by omega
            go_wp2
            go_ret
            exact ⟨by rw [Hbad.out (by rw [Hdef.out]; simp; omega)]; rfl, hx0⟩
          have h48' : ¬ (48 : Int) < (s.size : Int) := by omega
          rcases Nat.eq_zero_or_pos k with hk0 | hk0
          · subst hk0
            rw [add_zero] at hcell
            go_wp2
            go_round
            case rel => exact ⟨1, by omega, rfl, Hok.out (by rw [Hdef.out]; simp; omega)⟩
            case measure => simp [intOf]; omega
          · obtain ⟨j, rfl⟩ : ∃ j, k = j + 1 := ⟨k - 1, by omega⟩
            have hlj : j < n.keys.length := by omega
            obtain ⟨y, hy, hcell2⟩ := (Hh.out.ck.ext hx0) j _ (sv_get hlj)
            cases hy
            have ej : n.keys.getD (j + 1 - 1) ByteArray.empty = n.keys[j] := getD_of' _ _ hlj
            have Ej := Lib.hid ej
            clear ej
            have hdef2 : n.keyOk (j + 1) = (decide (s.size ≤ 48) && ((j + 1) == 0 || slt n.keys[j] s)) := by rw [Hdef.out, Ej.out]
            have Hdef2 := Lib.hid hdef2
            clear hdef2
            generalize n.keys[j] = p at hcell2 Hdef2
            have hcell' : w0.cell? ⟨x.block, x.off + (j + 1), none⟩ = some (.string s) := hcell
            have e1 : ((j + 1 : Nat) : Int) - 1 = (j : Int) := by omega
            have hpos : (0 : Int) < ((j + 1 : Nat) : Int) := by omega
            cases hb : Op.bytesLess p.toList s.toList with
            | true =>
              go_wp2
              go_round
              case rel => exact ⟨j + 1 + 1, by omega, by go_num, Hok.out (by rw [Hdef2.out, slt, hb]; simp; omega)⟩
              case measure => simp [intOf]; omega
            | false =>
              go_wp2
              go_ret
              exact ⟨by rw [Hbad.out (by rw [Hdef2.out, slt, hb]; simp)]; rfl, hx0⟩
        · obtain rfl : k = K := by omega
          have hkeys : n.keysOk = true := keys_all Hh.out.hk hall
          have Hkeys := Lib.hid hkeys
          clear hall hkeys hlt hk
          go_wp2
          have hvals : n.valsOk = true := vals_all (by have e : n.vals = [] := List.eq_nil_of_length_eq_zero Hh.out.hv; rw [e]; intro v hv; simp at hv)
          have Hvals := Lib.hid hvals
          clear hvals
          go_loop [74] (fun i => i = .int .i64 0) (fun i => 0)
          case atStart => rfl
          case round =>
              subst hrel
              go_wp2_with (go_at_call 19; ((with_reducible refine (contains_calls da (k + 1) dc n.kids _ (Hh.out.cd.ext hx0) Hh.out.hd Hh.out.bd_).mono ?_); rintro e w' ⟨rfl, rfl⟩))
              go_ret
              refine ⟨?_, hx0⟩
              have e : n.good = n.kids.all kidOk := by rw [Hg.out, Hkeys.out, Hvals.out]; rfl
              rw [e]
              exact ret_bool (by simp)
end Go.Proofs.Ytmfmpbeempjeoaa
