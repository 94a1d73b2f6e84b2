/- CodeReads: the walk of the law. -/
import Derived.Test.YtfohdngnflkfjaaReadVal
import Derived.Deep.RegionWith
import Derived.Deep.CutBlock
import Derived.Deep.RegionHeld3
namespace Go.Proofs.Ytfohdngnflkfjaa
open Go.RowKit
set_option linter.unusedVariables false

theorem Turns.rdr {w w' : World} {g g2 : Nat} {r m : PR} (ht : Turns w w' g2) (hm : RRdr w g2 m) (hr : Rdr w g r) (hne : g ≠ g2) : Rdr w' g r := by
  obtain ⟨A, c, h1, h2, h3, h4, h5⟩ := hr
  refine ⟨A, c, ht.blk h1 hne, h2, h3, fun i v hv => ?_, h5⟩
  obtain ⟨x, hx, hc⟩ := h4 i v hv
  refine ⟨x, hx, ht.cell hc (fun e => ?_)⟩
  have e1 := Option.some.inj e
  have hblk : w.heap[(x.add i).block]? = some (.cells #[.string (bstr m.b), .bool m.bad] 46 (0, 0)) := by rw [e1]; exact hm.1
  unfold World.cell? at hc
  rw [hblk] at hc
  simp only at hc
  have hi : i < r.b.length := by
    by_cases hi : i < r.b.length
    · exact hi
    · rw [List.getElem?_eq_none (by rw [bv_length]; omega)] at hv; cases hv
  rw [bv_get hi] at hv
  cases hv
  split at hc
  · cases hc
  · generalize (x.add i).off = o at hc
    match o with
    | 0 => simp at hc
    | 1 => simp at hc
    | o + 2 => simp at hc
theorem PR.Ok.of_uint {r r' : PR} {m : Nat} (h : r.Ok) (hp : r.uint = (m, r')) : r'.Ok := by have := h.uint; rw [hp] at this; exact this
theorem PR.Ok.of_int {r r' : PR} {m : Int} (h : r.Ok) (hp : r.int = (m, r')) : r'.Ok := by have := h.int; rw [hp] at this; exact this
theorem PR.Ok.of_in {r r' : PR} {m lo hi : Int} (h : r.Ok) (hp : r.in_ lo hi = (m, r')) : r'.Ok := by have := h.in_ lo hi; rw [hp] at this; exact this
theorem PR.Ok.of_take {r r' : PR} {t : List UInt8} {n : Int} (h : r.Ok) (hp : r.take n = (t, r')) : r'.Ok := by have := h.take n; rw [hp] at this; exact this
theorem PR.Ok.of_text {r r' : PR} {t : List UInt8} {n : Int} (h : r.Ok) (hp : r.text n = (t, r')) : r'.Ok := by have := h.text n; rw [hp] at this; exact this

theorem rruint_val (g : Nat) (r : PR) (m : Nat) (r' : PR) (w : World) (h : RRdr w g r) (hp : r.uint = (m, r')) :
    Calls Try.prog 25 #[.pointer (some ⟨g, 0, none⟩)] w fun e w' => e = .returned (.int .u64 (m : Nat)) ∧ RRdr w' g r' ∧ Turns w w' g := by
  have := rruint_calls g r w h
  rw [hp] at this
  exact this
theorem rrint_val (g : Nat) (r : PR) (m : Int) (r' : PR) (w : World) (h : RRdr w g r) (hp : r.int = (m, r')) :
    Calls Try.prog 26 #[.pointer (some ⟨g, 0, none⟩)] w fun e w' => e = .returned (.int .i64 m) ∧ RRdr w' g r' ∧ Turns w w' g := by
  have := rrint_calls g r w h
  rw [hp] at this
  exact this
theorem rrin_val (g : Nat) (r : PR) (lo hi m : Int) (r' : PR) (w : World) (h : RRdr w g r) (hok : r.Ok) (hp : r.in_ lo hi = (m, r')) :
    Calls Try.prog 29 #[.pointer (some ⟨g, 0, none⟩), .int .i64 lo, .int .i64 hi] w fun e w' => e = .returned (.int .i64 m) ∧ RRdr w' g r' ∧ Turns w w' g := by
  have := rrin_calls g r lo hi w h hok
  rw [hp] at this
  exact this
theorem rrtake_val (g : Nat) (r : PR) (n : Int) (s : ByteArray) (r' : PR) (w : World) (h : RRdr w g r) (hp : r.take n = (s.data.toList, r')) :
    Calls Try.prog 30 #[.pointer (some ⟨g, 0, none⟩), .int .i64 n] w fun e w' => e = .returned (.string s) ∧ RRdr w' g r' ∧ Turns w w' g := by
  have := rrtake_calls g r n w h
  rw [hp, bstr_of] at this
  exact this
theorem rrtext_val (g : Nat) (r : PR) (n : Int) (s : ByteArray) (r' : PR) (w : World) (h : RRdr w g r) (hn : n ≤ 9223372036854775807) (hp : r.text n = (s.data.toList, r')) :
    Calls Try.prog 27 #[.pointer (some ⟨g, 0, none⟩), .int .i64 n] w fun e w' => e = .returned (.string s) ∧ RRdr w' g r' ∧ Turns w w' g := by
  have := rrtext_calls g r n w h hn
  rw [hp, bstr_of] at this
  exact this
theorem rtake_nil0 (n : Int) (w : World) : Calls Try.prog 17 #[.pointer none, .int .i64 n] w fun e w' => e = .returned (.string ⟨#[]⟩) ∧ w = w' := rtake_nil n w
theorem rtext_nil0 (n : Int) (w : World) (hn : n ≤ 9223372036854775807) : Calls Try.prog 23 #[.pointer none, .int .i64 n] w fun e w' => e = .returned (.string ⟨#[]⟩) ∧ w = w' := rtext_nil n w hn

/-- Both readers have r. -/
structure Two (w : World) (g g2 : Nat) (r : PR) : Prop where
  one : Rdr w g r
  two : RRdr w g2 r
theorem Two.ext {w w' : World} {g g2 : Nat} {r : PR} (h : Two w g g2 r) (k : Ext w w') : Two w' g g2 r := ⟨h.one.ext k, h.two.ext k⟩

/-- What a call leaves. -/
def Pt.next (q : Pt) (r : PR) : PR := if q.k = 0 then r.uint.2 else if q.k = 1 then r.int.2 else if q.k = 2 then (r.text q.n).2 else if q.k = 3 then (r.in_ q.lo q.hi).2 else if q.k = 4 then (r.take q.n).2 else r
theorem Pt.next_ok (q : Pt) {r : PR} (h : r.Ok) : (q.next r).Ok := by
  unfold Pt.next
  split
  · exact h.uint
  split
  · exact h.int
  split
  · exact h.text _
  split
  · exact h.in_ _ _
  split
  · exact h.take _
  exact h

set_option maxRecDepth 100000 in
set_option maxHeartbeats 8000000 in
theorem reads_calls (Ab Ac : Option Addr) (nb cb nc cc : Nat) (bs : List UInt8) (xs : List Pt) (w : World) (hb : Cells w Ab (bv bs)) (hnb : bs.length = nb) (hlb : nb ≤ 140737488351232) (h : Pts w Ac xs) (hn : xs.length = nc) (hl : nc ≤ 140737488351232) :
    Calls Try.prog 7 #[.slice Ab nb cb, .slice Ac nc cc] w fun e w' => e = .returned (.bool true) ∧ Ext w w' := by
  by_cases h1 : 16384 < nb
  · go_enter Try.func7, Try.ntmps7
    go_wp2_with (go_at_call 10; refine (alive_calls _).mono ?_; rintro e w1 ⟨rfl, hx⟩)
    go_ret
    exact ⟨rfl, hx⟩
  by_cases h2 : 200 < nc
  · go_enter Try.func7, Try.ntmps7
    go_wp2_with (go_at_call 10; refine (alive_calls _).mono ?_; rintro e w1 ⟨rfl, hx⟩)
    go_ret
    exact ⟨rfl, hx⟩
  subst hn
  have HNB := Lib.hid hnb
  clear hnb
  go_enter Try.func7, Try.ntmps7
  go_upto_region 5 with (first
    | (go_at_call 10; refine (alive_calls _).mono ?_; rintro e w1 ⟨rfl, hx⟩))
  have hb1 := hb.ext hx
  have hcd := conv_str (P := Try.prog) (w := w1.drew) (c := cb) Try.underlying22 Try.underlying5 Try.underlying9 HNB.out (hb1.ext (Ext.refl w1).drew)
  go_cut [5, 6] (fun a b wx => ∃ g g2, a = .pointer (some ⟨g, 0, none⟩) ∧ b = .pointer (some ⟨g2, 0, none⟩) ∧ Two wx g g2 ⟨bs, false⟩ ∧ g ≠ g2 ∧ w.heap.size ≤ g ∧ w.heap.size ≤ g2 ∧ Ext w wx)
  case first =>
    have hRb : bs.length ≤ 140737488351232 := by rw [HNB.out]; exact hlb
    go_region_with (first
      | (go_at_call 14; (with_reducible refine (read_calls Ab nb cb bs _ (hb1.ext (Ext.refl w1).drew) HNB.out hlb).mono ?_); rintro e w4 ⟨g, rfl, hg, hr, hx4⟩; have hx4' := (hx.drew).trans hx4; have hc4 := conv_str (P := Try.prog) (w := w4) (c := cb) Try.underlying22 Try.underlying5 Try.underlying9 HNB.out (hb.ext hx4'))
      | (go_at_call 14; (with_reducible refine (read_calls Ab nb cb bs _ (hb1.ext ((Ext.refl w1).alloc _).drew) HNB.out hlb).mono ?_); rintro e w4 ⟨g, rfl, hg, hr, hx4⟩))
    all_goals
      go_wp2_with (fail)
      go_meet
      case rel =>
        first
          | exact ⟨g, _, rfl, rfl, ⟨hr.ext ((Ext.refl w4).alloc _), Blk.new w4 _ _, hRb⟩, Nat.ne_of_lt hr.lt, Nat.le_trans hx.size hg, hx4'.size, hx4'.alloc _⟩
          | exact ⟨g, w1.heap.size, rfl, rfl, ⟨hr, Blk.ext (Blk.drew (Blk.new w1 _ _)) hx4, hRb⟩, (fun e => by rw [e] at hg; simp at hg; omega), Nat.le_trans (hx.alloc _).size hg, hx.size, ((hx.alloc _).drew).trans hx4⟩
  case rest =>
    clear hx hb1 hcd hb
    obtain ⟨g, g2, rfl, rfl, h2, hgne, hgw, hgw2, hx⟩ := hcut
    go_wp2
    go_loopg [29] (xs.length) (fun gk i wr => ∃ (k : Nat) (r : PR), i = .int .i64 k ∧ k + gk = xs.length ∧ Aside (Two wr g g2 r ∧ r.Ok) ∧ Ext w wr)
    case atStart => exact ⟨0, ⟨bs, false⟩, rfl, by omega, ⟨h2, (fun h => by cases h)⟩, hx⟩
    case round =>
      clear h2 hx
      obtain ⟨k, r, rfl, hk, hA, hx⟩ := hrel
      obtain ⟨h2, hrok⟩ := hA.out
      clear hA
      by_cases hlt : k < xs.length
      · obtain ⟨x, rfl, hc⟩ := (h.get hlt).2
        have hc' : ∀ j v, xs[k].cs[j]? = some v → wr.cell? ((x.add (k * 6)).add j) = some v := fun j v hv => hx.cell (hc j v hv)
        have hok := (h.get hlt).1
        obtain ⟨q, hq⟩ : ∃ q, q = xs[k] := ⟨_, rfl⟩
        rw [← hq] at hc' hok
        have hne : wr.heap.size ≠ g := fun e => by have := h2.one.lt; omega
        have hne2 : wr.heap.size ≠ g2 := fun e => by have := h2.two.1.lt; omega
        have hz : Ext wr (wr.alloc (.cells #[.int .i64 0, .int .u64 0, .int .i64 0, .string ⟨#[]⟩, .int .i64 0, .int .i64 0] 48)) := (Ext.refl _).alloc _
        obtain ⟨r1, rfl⟩ : ∃ r1, gk = r1 + 1 := ⟨gk - 1, by omega⟩
        have hqn : q.n ≤ 9223372036854775807 := hok.n1
        have HQN := Lib.hid hqn
        have HRK := Lib.hid hrok
        clear hq hok hc hqn hrok
        go_upto_if 35 with (first
          | (refine wpList_load_cells rfl 48 (.tmp 31) rfl (x.add (k * 6)) rfl q.cs _ hc' Try.underlying48 rfl pt_info ?_)
          | (refine wpList_store_blk rfl 48 (.tmp 9) (.tmp 32) rfl rfl wr.heap.size q.cs.toArray rfl rfl _ _ (Blk.new wr _ _) rfl (by kernel_rfl) ?_ ?_; (exact q.one); intro w3 hb3 hg3; have hxr := hz.grown_ hg3 (by intro j hj; cases hj; exact Nat.le_refl _); have hx3 := hx.trans hxr; have hr3 := h2.one.ext hxr; have hm3 := h2.two.ext hxr; have hb := Boxed.of hb3; have b0 := hb.c0; clear hc' h2 hb3 hg3 hz hx hxr))
        by_cases k0 : q.k = 0
        · have kb0 : ((q.k == 0) : Bool) = true := by rw [k0]; rfl
          have hnx : q.next r = r.uint.2 := by unfold Pt.next; rw [if_pos k0]
          have hnok := q.next_ok HRK.out
          rw [hnx] at hnok
          obtain ⟨⟨m, r'⟩, hp⟩ : ∃ p, p = r.uint := ⟨_, rfl⟩
          rw [← hp] at hnok
          have HP := Lib.hid hp.symm
          clear k0 hp hnx
          obtain ⟨_, b1, b2, b3, b4, b5⟩ := hb
          go_wp2_with (first
            | (go_at_call 21; (with_reducible refine (ruint_val g r m r' _ hr3 HP.out).mono ?_); rintro e w4 ⟨rfl, hr4, ht4⟩; have hx4 := ht4.ext hx3 hgw; have hm4 := ht4.rrdr hm3 hgne.symm; clear hr3 hm3 hx3 ht4)
            | (go_at_call 25; (with_reducible refine (rruint_val g2 r m r' _ hm4 HP.out).mono ?_); rintro e w5 ⟨rfl, hm5, ht5⟩; have hx5 := ht5.ext hx4 hgw2; have hr5 := ht5.rdr hm4 hr4 hgne; clear hr4 hm4 hx4 ht5)
            | (go_at_call 21; (with_reducible refine (ruint_nil _).mono ?_); rintro e w' ⟨rfl, rfl⟩)
            | (go_at_call 22; (with_reducible refine (rgood_calls g _ _ hr5).mono ?_); rintro e w' ⟨rfl, rfl⟩)
            | (go_at_call 31; (with_reducible refine (rrgood_calls g2 _ _ hm5).mono ?_); rintro e w' ⟨rfl, rfl⟩)
            | (go_at_call 32; (with_reducible refine (rend_calls g _ _ hr5).mono ?_); rintro e w' ⟨rfl, rfl⟩)
            | (go_at_call 33; (with_reducible refine (rrend_calls g2 _ _ hm5).mono ?_); rintro e w' ⟨rfl, rfl⟩))
          go_roundg r1
          case measure => omega
          case rel => exact ⟨k + 1, _, by go_num, by omega, ⟨⟨hr5, hm5⟩, hnok⟩, hx5⟩
        have kb0 : ((q.k == 0) : Bool) = false := by rw [beq_eq_false_iff_ne]; exact k0
        by_cases k1 : q.k = 1
        · have kb1 : ((q.k == 1) : Bool) = true := by rw [k1]; rfl
          have hnx : q.next r = r.int.2 := by unfold Pt.next; rw [if_neg k0, if_pos k1]
          have hnok := q.next_ok HRK.out
          rw [hnx] at hnok
          obtain ⟨⟨m, r'⟩, hp⟩ : ∃ p, p = r.int := ⟨_, rfl⟩
          rw [← hp] at hnok
          have HP := Lib.hid hp.symm
          clear k0 k1 hp hnx
          obtain ⟨_, b1, b2, b3, b4, b5⟩ := hb
          go_wp2_with (first
            | (go_at_call 24; (with_reducible refine (rint_val g r m r' _ hr3 HP.out).mono ?_); rintro e w4 ⟨rfl, hr4, ht4⟩; have hx4 := ht4.ext hx3 hgw; have hm4 := ht4.rrdr hm3 hgne.symm; clear hr3 hm3 hx3 ht4)
            | (go_at_call 26; (with_reducible refine (rrint_val g2 r m r' _ hm4 HP.out).mono ?_); rintro e w5 ⟨rfl, hm5, ht5⟩; have hx5 := ht5.ext hx4 hgw2; have hr5 := ht5.rdr hm4 hr4 hgne; clear hr4 hm4 hx4 ht5)
            | (go_at_call 24; (with_reducible refine (rint_nil _).mono ?_); rintro e w' ⟨rfl, rfl⟩)
            | (go_at_call 22; (with_reducible refine (rgood_calls g _ _ hr5).mono ?_); rintro e w' ⟨rfl, rfl⟩)
            | (go_at_call 31; (with_reducible refine (rrgood_calls g2 _ _ hm5).mono ?_); rintro e w' ⟨rfl, rfl⟩)
            | (go_at_call 32; (with_reducible refine (rend_calls g _ _ hr5).mono ?_); rintro e w' ⟨rfl, rfl⟩)
            | (go_at_call 33; (with_reducible refine (rrend_calls g2 _ _ hm5).mono ?_); rintro e w' ⟨rfl, rfl⟩))
          go_roundg r1
          case measure => omega
          case rel => exact ⟨k + 1, _, by go_num, by omega, ⟨⟨hr5, hm5⟩, hnok⟩, hx5⟩
        have kb1 : ((q.k == 1) : Bool) = false := by rw [beq_eq_false_iff_ne]; exact k1
        by_cases k2 : q.k = 2
        · have kb2 : ((q.k == 2) : Bool) = true := by rw [k2]; rfl
          have hnx : q.next r = (r.text q.n).2 := by unfold Pt.next; rw [if_neg k0, if_neg k1, if_pos k2]
          have hnok := q.next_ok HRK.out
          rw [hnx] at hnok
          obtain ⟨⟨t, r'⟩, hp⟩ : ∃ p, p = r.text q.n := ⟨_, rfl⟩
          rw [← hp] at hnok
          obtain ⟨s, hs⟩ : ∃ s, s = bstr t := ⟨_, rfl⟩
          have ht : t = s.data.toList := by rw [hs, bstr_data]
          subst ht
          have HP := Lib.hid hp.symm
          clear k0 k1 k2 hp hs hnx
          clear b0
          obtain ⟨b0, b1, b2, b3, b4, b5⟩ := hb
          go_upto_region 17 with (fail)
          have hbx := Boxed.mk b0 b1 b2 b3 b4 b5
          have hrd := hr3.ext (Ext.refl w3).drew
          have hmd := hm3.ext (Ext.refl w3).drew
          have hxd : Ext w w3.drew := hx3.drew
          have hbd := hbx.ext (Ext.refl w3).drew
          clear b0 b1 b2 b3 b4 b5
          go_region_held3 (fun w' => w'.cell? ⟨wr.heap.size, 2, none⟩ = some (.int .i64 q.n))
            (first | exact hb5.c2 | exact hb4.c2 | exact hbd.c2 | exact hbx.c2)
            (first
            | (go_at_call 23; (with_reducible refine (rtext_val g r q.n s r' _ hrd HQN.out HP.out).mono ?_); rintro e w4 ⟨rfl, hr4, ht4⟩; have hx4 := ht4.ext hxd hgw; have hm4 := ht4.rrdr hmd hgne.symm; have hb4 := hbd.turns ht4 hne)
            | (go_at_call 27; (with_reducible refine (rrtext_val g2 r q.n s r' _ hm4 HQN.out HP.out).mono ?_); rintro e w5 ⟨rfl, hm5, ht5⟩; have hx5 := ht5.ext hx4 hgw2; have hr5 := ht5.rdr hm4 hr4 hgne; have hb5 := hb4.turns ht5 hne2)
            | (go_at_call 27; (with_reducible refine (rrtext_val g2 r q.n s r' _ hmd HQN.out HP.out).mono ?_); rintro e w4 ⟨rfl, hm4, ht4⟩; have hx4 := ht4.ext hxd hgw2; have hr4 := ht4.rdr hmd hrd hgne; have hb4 := hbd.turns ht4 hne2)
            | (go_at_call 23; (with_reducible refine (rtext_val g r q.n s r' _ hr4 HQN.out HP.out).mono ?_); rintro e w5 ⟨rfl, hr5, ht5⟩; have hx5 := ht5.ext hx4 hgw; have hm5 := ht5.rrdr hm4 hgne.symm; have hb5 := hb4.turns ht5 hne)
            | (go_at_call 23; (with_reducible refine (rtext_nil0 q.n _ HQN.out).mono ?_); rintro e w' ⟨rfl, rfl⟩))
          all_goals
            go_wp2_with (first
            | (go_at_call 22; (with_reducible refine (rgood_calls g _ _ hr5).mono ?_); rintro e w' ⟨rfl, rfl⟩)
            | (go_at_call 31; (with_reducible refine (rrgood_calls g2 _ _ hm5).mono ?_); rintro e w' ⟨rfl, rfl⟩)
            | (go_at_call 32; (with_reducible refine (rend_calls g _ _ hr5).mono ?_); rintro e w' ⟨rfl, rfl⟩)
            | (go_at_call 33; (with_reducible refine (rrend_calls g2 _ _ hm5).mono ?_); rintro e w' ⟨rfl, rfl⟩))
            go_roundg r1
            case measure => omega
            case rel => exact ⟨k + 1, _, by go_num, by omega, ⟨⟨hr5, hm5⟩, hnok⟩, hx5⟩
        have kb2 : ((q.k == 2) : Bool) = false := by rw [beq_eq_false_iff_ne]; exact k2
        by_cases k3 : q.k = 3
        · have kb3 : ((q.k == 3) : Bool) = true := by rw [k3]; rfl
          have hnx : q.next r = (r.in_ q.lo q.hi).2 := by unfold Pt.next; rw [if_neg k0, if_neg k1, if_neg k2, if_pos k3]
          have hnok := q.next_ok HRK.out
          rw [hnx] at hnok
          obtain ⟨⟨m, r'⟩, hp⟩ : ∃ p, p = r.in_ q.lo q.hi := ⟨_, rfl⟩
          rw [← hp] at hnok
          have HP := Lib.hid hp.symm
          clear k0 k1 k2 k3 hp hnx
          clear b0
          obtain ⟨b0, b1, b2, b3, b4, b5⟩ := hb
          go_upto_region 19 with (fail)
          have hbx := Boxed.mk b0 b1 b2 b3 b4 b5
          have hrd := hr3.ext (Ext.refl w3).drew
          have hmd := hm3.ext (Ext.refl w3).drew
          have hxd : Ext w w3.drew := hx3.drew
          have hbd := hbx.ext (Ext.refl w3).drew
          clear b0 b1 b2 b3 b4 b5
          go_region_held3 (fun w' => w'.cell? ⟨wr.heap.size, 4, none⟩ = some (.int .i64 q.lo) ∧ w'.cell? ⟨wr.heap.size, 5, none⟩ = some (.int .i64 q.hi))
            (first | exact ⟨hb5.c4, hb5.c5⟩ | exact ⟨hb4.c4, hb4.c5⟩ | exact ⟨hbd.c4, hbd.c5⟩ | exact ⟨hbx.c4, hbx.c5⟩)
            (first
            | (go_at_call 28; (with_reducible refine (rin_val g r q.lo q.hi m r' _ hrd HP.out).mono ?_); rintro e w4 ⟨rfl, hr4, ht4⟩; have hx4 := ht4.ext hxd hgw; have hm4 := ht4.rrdr hmd hgne.symm; have hb4 := hbd.turns ht4 hne)
            | (go_at_call 29; (with_reducible refine (rrin_val g2 r q.lo q.hi m r' _ hm4 HRK.out HP.out).mono ?_); rintro e w5 ⟨rfl, hm5, ht5⟩; have hx5 := ht5.ext hx4 hgw2; have hr5 := ht5.rdr hm4 hr4 hgne; have hb5 := hb4.turns ht5 hne2)
            | (go_at_call 29; (with_reducible refine (rrin_val g2 r q.lo q.hi m r' _ hmd HRK.out HP.out).mono ?_); rintro e w4 ⟨rfl, hm4, ht4⟩; have hx4 := ht4.ext hxd hgw2; have hr4 := ht4.rdr hmd hrd hgne; have hb4 := hbd.turns ht4 hne2)
            | (go_at_call 28; (with_reducible refine (rin_val g r q.lo q.hi m r' _ hr4 HP.out).mono ?_); rintro e w5 ⟨rfl, hr5, ht5⟩; have hx5 := ht5.ext hx4 hgw; have hm5 := ht5.rrdr hm4 hgne.symm; have hb5 := hb4.turns ht5 hne)
            | (go_at_call 28; (with_reducible refine (rin_nil q.lo q.hi _).mono ?_); rintro e w' ⟨rfl, rfl⟩))
          all_goals
            go_wp2_with (first
            | (go_at_call 22; (with_reducible refine (rgood_calls g _ _ hr5).mono ?_); rintro e w' ⟨rfl, rfl⟩)
            | (go_at_call 31; (with_reducible refine (rrgood_calls g2 _ _ hm5).mono ?_); rintro e w' ⟨rfl, rfl⟩)
            | (go_at_call 32; (with_reducible refine (rend_calls g _ _ hr5).mono ?_); rintro e w' ⟨rfl, rfl⟩)
            | (go_at_call 33; (with_reducible refine (rrend_calls g2 _ _ hm5).mono ?_); rintro e w' ⟨rfl, rfl⟩))
            go_roundg r1
            case measure => omega
            case rel => exact ⟨k + 1, _, by go_num, by omega, ⟨⟨hr5, hm5⟩, hnok⟩, hx5⟩
        have kb3 : ((q.k == 3) : Bool) = false := by rw [beq_eq_false_iff_ne]; exact k3
        by_cases k4 : q.k = 4
        · have kb4 : ((q.k == 4) : Bool) = true := by rw [k4]; rfl
          have hnx : q.next r = (r.take q.n).2 := by unfold Pt.next; rw [if_neg k0, if_neg k1, if_neg k2, if_neg k3, if_pos k4]
          have hnok := q.next_ok HRK.out
          rw [hnx] at hnok
          obtain ⟨⟨t, r'⟩, hp⟩ : ∃ p, p = r.take q.n := ⟨_, rfl⟩
          rw [← hp] at hnok
          obtain ⟨s, hs⟩ : ∃ s, s = bstr t := ⟨_, rfl⟩
          have ht : t = s.data.toList := by rw [hs, bstr_data]
          subst ht
          have HP := Lib.hid hp.symm
          clear k0 k1 k2 k3 k4 hp hs hnx
          clear b0
          obtain ⟨b0, b1, b2, b3, b4, b5⟩ := hb
          go_upto_region 21 with (fail)
          have hbx := Boxed.mk b0 b1 b2 b3 b4 b5
          have hrd := hr3.ext (Ext.refl w3).drew
          have hmd := hm3.ext (Ext.refl w3).drew
          have hxd : Ext w w3.drew := hx3.drew
          have hbd := hbx.ext (Ext.refl w3).drew
          clear b0 b1 b2 b3 b4 b5
          go_region_held3 (fun w' => w'.cell? ⟨wr.heap.size, 2, none⟩ = some (.int .i64 q.n))
            (first | exact hb5.c2 | exact hb4.c2 | exact hbd.c2 | exact hbx.c2)
            (first
            | (go_at_call 17; (with_reducible refine (rtake_val g r q.n s r' _ hrd HP.out).mono ?_); rintro e w4 ⟨rfl, hr4, ht4⟩; have hx4 := ht4.ext hxd hgw; have hm4 := ht4.rrdr hmd hgne.symm; have hb4 := hbd.turns ht4 hne)
            | (go_at_call 30; (with_reducible refine (rrtake_val g2 r q.n s r' _ hm4 HP.out).mono ?_); rintro e w5 ⟨rfl, hm5, ht5⟩; have hx5 := ht5.ext hx4 hgw2; have hr5 := ht5.rdr hm4 hr4 hgne; have hb5 := hb4.turns ht5 hne2)
            | (go_at_call 30; (with_reducible refine (rrtake_val g2 r q.n s r' _ hmd HP.out).mono ?_); rintro e w4 ⟨rfl, hm4, ht4⟩; have hx4 := ht4.ext hxd hgw2; have hr4 := ht4.rdr hmd hrd hgne; have hb4 := hbd.turns ht4 hne2)
            | (go_at_call 17; (with_reducible refine (rtake_val g r q.n s r' _ hr4 HP.out).mono ?_); rintro e w5 ⟨rfl, hr5, ht5⟩; have hx5 := ht5.ext hx4 hgw; have hm5 := ht5.rrdr hm4 hgne.symm; have hb5 := hb4.turns ht5 hne)
            | (go_at_call 17; (with_reducible refine (rtake_nil0 q.n _).mono ?_); rintro e w' ⟨rfl, rfl⟩))
          all_goals
            go_wp2_with (first
            | (go_at_call 22; (with_reducible refine (rgood_calls g _ _ hr5).mono ?_); rintro e w' ⟨rfl, rfl⟩)
            | (go_at_call 31; (with_reducible refine (rrgood_calls g2 _ _ hm5).mono ?_); rintro e w' ⟨rfl, rfl⟩)
            | (go_at_call 32; (with_reducible refine (rend_calls g _ _ hr5).mono ?_); rintro e w' ⟨rfl, rfl⟩)
            | (go_at_call 33; (with_reducible refine (rrend_calls g2 _ _ hm5).mono ?_); rintro e w' ⟨rfl, rfl⟩))
            go_roundg r1
            case measure => omega
            case rel => exact ⟨k + 1, _, by go_num, by omega, ⟨⟨hr5, hm5⟩, hnok⟩, hx5⟩
        have kb4 : ((q.k == 4) : Bool) = false := by rw [beq_eq_false_iff_ne]; exact k4
        have hnx : q.next r = r := by unfold Pt.next; rw [if_neg k0, if_neg k1, if_neg k2, if_neg k3, if_neg k4]
        clear k0 k1 k2 k3 k4 hnx
        have hr5 := hr3
        have hm5 := hm3
        go_wp2_with (first
          | (go_at_call 22; (with_reducible refine (rgood_calls g _ _ hr5).mono ?_); rintro e w' ⟨rfl, rfl⟩)
            | (go_at_call 31; (with_reducible refine (rrgood_calls g2 _ _ hm5).mono ?_); rintro e w' ⟨rfl, rfl⟩)
            | (go_at_call 32; (with_reducible refine (rend_calls g _ _ hr5).mono ?_); rintro e w' ⟨rfl, rfl⟩)
            | (go_at_call 33; (with_reducible refine (rrend_calls g2 _ _ hm5).mono ?_); rintro e w' ⟨rfl, rfl⟩))
        go_roundg r1
        case measure => omega
        case rel => exact ⟨k + 1, _, by go_num, by omega, ⟨⟨hr5, hm5⟩, HRK.out⟩, hx3⟩
      · go_wp2_with (first
          | (go_at_call 22; (with_reducible refine (rgood_nil _).mono ?_); rintro e w' ⟨rfl, rfl⟩)
          | (go_at_call 32; (with_reducible refine (rend_nil _).mono ?_); rintro e w' ⟨rfl, rfl⟩))
        go_ret
        exact ⟨rfl, hx⟩
end Go.Proofs.Ytfohdngnflkfjaa
