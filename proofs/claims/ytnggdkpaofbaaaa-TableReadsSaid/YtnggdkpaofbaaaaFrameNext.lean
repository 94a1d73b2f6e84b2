/- The walk of frame.next. -/
import Derived.Test.YtnggdkpaofbaaaaFramePut
import Derived.Test.YtnggdkpaofbaaaaCodeRead
namespace Go.Proofs.Ytnggdkpaofbaaaa
open Go.RowKit
set_option linter.unusedVariables false

/-- What next answers. -/
def nextV : Option (List UInt8 × Nat) → Value
  | none => .tuple #[.string ByteArray.empty, .int .i64 0, .bool false]
  | some (x, n) => .tuple #[.string (bstr x), .int .i64 n, .bool true]

theorem le4_get (x : W) (j : Nat) (h : j < 4) : ((x.toNat : Int) / 2 ^ (8 * j)) % 256 = ((((le4 x)[j]'h).toNat : Nat) : Int) := by
  have e : ∀ n : Nat, ((UInt8.ofNat n).toNat : Int) = (n : Int) % 256 := fun n => by rw [UInt8.toNat_ofNat']; omega
  match j, h with
  | 0, _ => show _ = ((UInt8.ofNat x.toNat).toNat : Int); rw [e]; omega
  | 1, _ => show _ = ((UInt8.ofNat (x.toNat / 256)).toNat : Int); rw [e]; simp
  | 2, _ => show _ = ((UInt8.ofNat (x.toNat / 65536)).toNat : Int); rw [e]; simp
  | 3, _ => show _ = ((UInt8.ofNat (x.toNat / 16777216)).toNat : Int); rw [e]; simp

theorem nextB_bad {b : List UInt8} {x : List UInt8} {r : PR} (h : PR.text ⟨b, false⟩ b.length = (x, r)) (hb : r.bad = true) : nextB b = none := by
  unfold nextB; rw [h, if_neg (by rw [hb]; simp)]
theorem nextB_good {b : List UInt8} {x : List UInt8} {r : PR} (h : PR.text ⟨b, false⟩ b.length = (x, r)) (hb : r.bad = false) : nextB b = if (fr x).isPrefixOf b = true then some (x, (fr x).length) else none := by
  unfold nextB; rw [h]
  by_cases hp : (fr x).isPrefixOf b = true
  · rw [if_pos hp, if_pos ⟨hb, hp⟩]
  · rw [if_neg hp, if_neg (fun h => hp h.2)]
/-- The check behind what was read. -/
theorem nextB_check {b t rest c : List UInt8} (h : b = t ++ rest) (hc : c.length = 4) : (t ++ c).isPrefixOf b = true ↔ ∀ j (h : j < 4), b[t.length + j]? = some (c[j]'(by omega)) := by
  rw [List.isPrefixOf_iff_prefix, h]
  constructor
  · rintro ⟨z, hz⟩ j hj
    rw [← hz, List.append_assoc, List.getElem?_append_right (by omega), Nat.add_sub_cancel_left, List.getElem?_append_left (by omega), List.getElem?_eq_getElem (by omega)]
  · intro hj
    refine (List.prefix_append_right_inj t).2 ?_
    rw [List.prefix_iff_eq_take, hc]
    apply List.ext_getElem?
    intro i
    rw [List.getElem?_take]
    by_cases hi : i < 4
    · rw [if_pos hi]
      have := hj i hi
      rw [List.getElem?_append_right (by omega), Nat.add_sub_cancel_left] at this
      rw [this, List.getElem?_eq_getElem (by omega)]
    · rw [if_neg hi, List.getElem?_eq_none (by omega)]

theorem bv_pre {b t rest : List UInt8} {n : Nat} (h : b = t ++ rest) (hn : t.length = n) : (bv b).take n = bv t := by
  subst hn
  rw [h, bv_append, ← bv_length t, List.take_left]

set_option maxRecDepth 50000 in
set_option maxHeartbeats 1000000 in
theorem fnext_calls (A : Option Addr) (n c : Nat) (bs : List UInt8) (w : World) (hb : Cells w A (bv bs)) (hn : bs.length = n) (hc : n ≤ c) (hl : n ≤ 140737488350000) :
    Calls Try.prog 80 #[.slice A n c] w fun e w' => e = .returned (nextV (nextB bs)) ∧ Ext w w' := by
  obtain ⟨x, hx⟩ : ∃ x, x = (PR.text ⟨bs, false⟩ (bs.length : Nat)).1 := ⟨_, rfl⟩
  obtain ⟨r, hr⟩ : ∃ r, r = (PR.text ⟨bs, false⟩ (bs.length : Nat)).2 := ⟨_, rfl⟩
  have hxr : PR.text ⟨bs, false⟩ (bs.length : Nat) = (x, r) := by rw [hx, hr]
  have hrd := fun w => read_calls A n c bs w 
  have htx := fun g w h => rtext_calls g ⟨bs, false⟩ (n : Nat) w h (by omega)
  rw [hn] at hxr
  rw [hxr] at htx
  rw [← hn] at hxr
  clear hx hr
  cases hbad : r.bad with
  | true =>
    have hnone := nextB_bad hxr hbad
    rw [hnone]
    have hg := fun g w h => rgood_calls g r w h
    rw [hbad] at hg
    clear hnone hxr
    go_enter Try.func80, Try.ntmps80
    go_wp2_with (first
      | (go_at_call 55; refine (hrd _ hb hn (by omega)).mono ?_; rintro e w1 ⟨g, rfl, hgs, hr1, hx1⟩)
      | (go_at_call 58; refine (htx g _ hr1).mono ?_; rintro e w2 ⟨rfl, hr2, ht2⟩)
      | (go_at_call 57; refine (hg g _ hr2).mono ?_; rintro e w3 ⟨rfl, rfl⟩))
    go_ret3
    exact ⟨rfl, ht2.ext hx1 hgs⟩
  | false =>
    obtain ⟨hbs, hx64⟩ := text_back hxr hbad
    have hgood := nextB_good hxr hbad
    have hg := fun g w h => rgood_calls g r w h
    rw [hbad] at hg
    obtain ⟨L, hL⟩ : ∃ L, x.length = L := ⟨_, rfl⟩
    obtain ⟨q, hq⟩ : ∃ q, sizeN L = q := ⟨_, rfl⟩
    obtain ⟨t, ht⟩ : ∃ t, textB x = t := ⟨_, rfl⟩
    have htl : t.length = q + L := by rw [← ht, textB_len, hL, hq]
    rw [ht] at hbs
    have hbl : q + L + r.b.length = n := by rw [← hn, hbs, List.length_append, htl]
    have hsz : (bstr x).size = L := by rw [bstr_size, hL]
    have hsc := fun w => size_calls L w (by omega)
    rw [hq] at hsc
    have hfr : (fr x).length = q + L + 4 := by rw [fr_len, ht, htl]
    rw [hgood]
    have HL := Lib.hid hL
    have HF := Lib.hid hfr
    clear hxr hgood hL hq hfr
    by_cases hshort : n < q + L + 4
    · have hnp : ¬ (fr x).isPrefixOf bs = true := by
        intro hp
        have := (List.isPrefixOf_iff_prefix.1 hp).length_le
        rw [HF.out] at this
        omega
      rw [if_neg hnp]
      go_enter Try.func80, Try.ntmps80
      go_wp2_with (first
        | (go_at_call 55; refine (hrd _ hb hn (by omega)).mono ?_; rintro e w1 ⟨g, rfl, hgs, hr1, hx1⟩)
        | (go_at_call 58; refine (htx g _ hr1).mono ?_; rintro e w2 ⟨rfl, hr2, ht2⟩)
        | (go_at_call 57; refine (hg g _ hr2).mono ?_; rintro e w3 ⟨rfl, rfl⟩)
        | (go_at_call 101; refine (hsc _).mono ?_; rintro e w3 ⟨rfl, rfl⟩))
      go_ret3
      exact ⟨rfl, ht2.ext hx1 hgs⟩
    · obtain ⟨res, hres⟩ : ∃ res, res = (if (fr x).isPrefixOf bs = true then some (x, (fr x).length) else none) := ⟨_, rfl⟩
      rw [← hres]
      have HR := Lib.hid hres
      clear hres
      go_enter Try.func80, Try.ntmps80
      go_wp2_with (first
        | (go_at_call 55; refine (hrd _ hb hn (by omega)).mono ?_; rintro e w1 ⟨g, rfl, hgs, hr1, hx1⟩)
        | (go_at_call 58; refine (htx g _ hr1).mono ?_; rintro e w2 ⟨rfl, hr2, ht2⟩)
        | (go_at_call 57; refine (hg g _ hr2).mono ?_; rintro e w3 ⟨rfl, rfl⟩)
        | (go_at_call 101; refine (hsc _).mono ?_; rintro e w3 ⟨rfl, rfl⟩))
      refine (fsum_calls A (q + L) c t _ ?_ htl (by omega)).mono ?_
      case _ => exact (bv_pre hbs htl) ▸ (hb.ext (ht2.ext hx1 hgs)).take (q + L)
      rintro e w3 ⟨rfl, rfl⟩
      have hb2 := hb.ext (ht2.ext hx1 hgs)
      have hx2 := ht2.ext hx1 hgs
      obtain ⟨S, hS⟩ : ∃ S, S = crc t := ⟨_, rfl⟩
      have hck := nextB_check (c := le4 S) hbs rfl
      have hpf : fr x = t ++ le4 S := by rw [fr, ht, hS]
      rw [← hpf, htl] at hck
      have HC := Lib.hid hck
      have hlt4 : q + L + 4 ≤ n := by omega
      clear hck hpf hg htx hrd hsc hb HL
      rw [← hS]
      clear hS
      go_wp2
      go_loopw [35] (fun i wr => ∃ j : Nat, j ≤ 4 ∧ i = .int .i64 j ∧ Aside (∀ k (h : k < j) (h4 : k < 4), bs[q + L + k]? = some ((le4 S)[k]'h4)) ∧ Ext w wr ∧ Cells wr A (bv bs)) (fun i _ => 4 - (intOf i).toNat)
      case atStart => exact ⟨0, by omega, rfl, fun k h => absurd h (by omega), hx2, hb2⟩
      case round =>
        obtain ⟨j, hj, rfl, hA, hxw, hbw⟩ := hrel
        by_cases h4 : j < 4
        · have hlt : q + L + j < bs.length := by omega
          obtain ⟨y, hy, hcell⟩ := hbw.byte hlt
          subst hy
          have hge := le4_get S j h4
          obtain ⟨b1, hb1⟩ : ∃ b1, b1 = bs[q + L + j] := ⟨_, rfl⟩
          obtain ⟨b2, hb2'⟩ : ∃ b2, b2 = (le4 S)[j]'h4 := ⟨_, rfl⟩
          rw [← hb1] at hcell
          rw [← hb2'] at hge
          by_cases he : b1 = b2
          · subst he
            have hnew : bs[q + L + j]? = some ((le4 S)[j]'h4) := by rw [List.getElem?_eq_getElem hlt, ← hb1, hb2']
            have HN := Lib.hid hnew
            have hne : (((b1.toNat : Int) != (b1.toNat : Int)) : Bool) = false := by simp
            clear hb1 hb2' hnew hb2
            go_wp2
            go_region
            go_wp2
            go_roundw
            case rel =>
              refine ⟨j + 1, by omega, by go_num, fun k hk h4 => ?_, hxw.drewN 1, hbw.ext ((Ext.refl _).drewN 1)⟩
              rcases Nat.lt_or_ge k j with h | h
              · exact hA.out k h h4
              · obtain rfl : k = j := by omega
                exact HN.out
            case measure => simp [intOf]; omega
          · have hnp : ¬ (fr x).isPrefixOf bs = true := fun hp => he (by
              have := HC.out.1 hp j h4
              rw [List.getElem?_eq_getElem hlt, ← hb1] at this
              exact (Option.some.inj this).trans hb2'.symm)
            have hne : (((b1.toNat : Int) != (b2.toNat : Int)) : Bool) = true := by
              rw [bne_iff_ne]
              exact fun h => he (UInt8.toNat_inj.1 (by omega))
            have HNP := Lib.hid hnp
            clear hb1 hb2' hb2 he hnp
            go_wp2
            go_region
            go_wp2
            go_ret3
            rw [HR.out, if_neg HNP.out]
            exact ⟨rfl, hxw.drewN 1⟩
        · obtain rfl : j = 4 := by omega
          go_wp2
          go_ret3
          rw [HR.out, if_pos (HC.out.2 fun k h => hA.out k h h), HF.out]
          exact ⟨rfl, hxw⟩
end Go.Proofs.Ytnggdkpaofbaaaa
