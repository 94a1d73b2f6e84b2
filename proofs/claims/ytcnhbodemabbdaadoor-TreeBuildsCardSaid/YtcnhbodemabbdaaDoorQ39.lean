/- The walks of the reference of layer 1: writers and reader, by the same plain words. -/
import Derived.Test.YtcnhbodemabbdaaDoorQ38
import Derived.Deep.RegionWith
namespace Go.Proofs.YtcnhbodemabbdaaDoor
open Go.RowKit
set_option linter.unusedVariables false

theorem bstr_get {bs : List UInt8} {j : Nat} (h : j < bs.length) : ∀ h' : j < (bstr bs).size, (bstr bs)[j]'h' = bs[j] := fun h' => by
  show (bs.toArray)[j]'(by simpa using h) = bs[j]
  exact List.getElem_toArray _
theorem bstr_extract (bs : List UInt8) (i j : Nat) : (bstr bs).extract i j = bstr ((bs.take j).drop i) := by
  apply ByteArray.ext
  apply Array.ext'
  simp [bstr, ByteArray.data_extract, List.extract_eq_drop_take']

set_option maxRecDepth 50000 in
set_option maxHeartbeats 1000000 in
/-- The reference's writer of numbers. -/
theorem refUint_calls (m : Nat) : ∀ (w : World), m < 18446744073709551616 →
    Calls Tryd.prog 85 #[.int .u64 m] w fun e w' => e = .returned (.string (bstr (uintB m))) ∧ Ext w w' := by
  induction m using Nat.strongRecOn with
  | _ m ih =>
    intro w hm
    by_cases h : m < 128
    · have hu := uintB_lt h
      obtain ⟨c0, hc0⟩ : ∃ c0, c0 = UInt8.ofNat m := ⟨_, rfl⟩
      have hor : bv [c0] = [.int .u8 (m : Int)] := by simp only [bv, List.map_cons, List.map_nil]; rw [hc0, ofNat_small (by omega)]
      rw [← hc0] at hu
      have hcv := fun (w : World) => conv_str (P := Tryd.prog) (w := w.alloc (.cells #[.int .u8 (m : Int)] 5)) Tryd.underlying87 Tryd.underlying5 Tryd.underlying9 (a := some ⟨w.heap.size, 0, none⟩) (c := 1) (bs := [c0]) (n := 1) rfl (by rw [hor]; exact Cells.lit rfl [.int .u8 (m : Int)] _ _)
      rw [hu]
      clear ih hm hc0 hu hor
      go_enter Tryd.func85, Tryd.ntmps85
      go_wp2
      go_ret
      exact ⟨rfl, (Ext.refl _).alloc _⟩
    · have ihq := fun w => ih (m / 128) (by omega) w (by omega)
      have hu := uintB_ge h
      have hs := sizeN_64 (n := m / 128) (by omega)
      unfold sizeN at hs
      obtain ⟨q, hq⟩ : ∃ q, q = m / 128 := ⟨_, rfl⟩
      obtain ⟨d, hd⟩ : ∃ d : Nat, d = m % 128 + 128 := ⟨_, rfl⟩
      obtain ⟨c0, hc0⟩ : ∃ c0, c0 = UInt8.ofNat d := ⟨_, rfl⟩
      have hdl : 128 ≤ d ∧ d < 256 := by omega
      have hor : bv [c0] = [.int .u8 (d : Int)] := by simp only [bv, List.map_cons, List.map_nil]; rw [hc0, ofNat_small (by omega)]
      have hdi : (128 : Int) + (m : Int) % 128 = (d : Int) := by omega
      have hqi : (m : Int) / 128 = (q : Int) := by omega
      have hdw : IntKind.u8.wrap (IntKind.u64.wrap (128 + (m : Int).tmod 128)) = (d : Int) := by
        have e : (m : Int).tmod 128 = ((m % 128 : Nat) : Int) := by rw [Int.tmod_eq_emod_of_nonneg (by omega)]; omega
        rw [e, IntKind.wrap_u64]
        simp only [IntKind.wrap, IntKind.bits, IntKind.signed]
        simp
        omega
      have hqw : IntKind.u64.wrap (q : Int) = (q : Int) := by rw [IntKind.wrap_u64]; omega
      rw [← hd, ← hc0, ← hq] at hu
      rw [← hq] at ihq hs
      have hcvd := fun (w : World) => conv_str (P := Tryd.prog) (w := (w.alloc (.cells #[.int .u8 (d : Int)] 5)).drew) Tryd.underlying87 Tryd.underlying5 Tryd.underlying9 (a := some ⟨w.heap.size, 0, none⟩) (c := 1) (bs := [c0]) (n := 1) rfl (by rw [hor]; exact Cells.ext (Cells.lit rfl [.int .u8 (d : Int)] _ _) (Ext.refl _).drew)
      have hcv := fun (w : World) => conv_str (P := Tryd.prog) (w := w.alloc (.cells #[.int .u8 (d : Int)] 5)) Tryd.underlying87 Tryd.underlying5 Tryd.underlying9 (a := some ⟨w.heap.size, 0, none⟩) (c := 1) (bs := [c0]) (n := 1) rfl (by rw [hor]; exact Cells.lit rfl [.int .u8 (d : Int)] _ _)
      have hz1 : (bstr [c0]).size = 1 := bstr_size _
      have hz2 : (bstr (uintB q)).size ≤ 10 := by rw [bstr_size]; exact hs
      have hge : 128 ≤ m := by omega
      obtain ⟨hd1, hd2⟩ := hdl
      rw [hu]
      have HOR := Lib.hid hor
      clear ih hm hc0 hu hor hd hq h
      go_enter Tryd.func85, Tryd.ntmps85
      go_wp2
      go_region_with (go_at_call 85; refine (ihq _).mono ?_; rintro e w4 ⟨rfl, hx4⟩; (first | (have hcv4 := conv_str (P := Tryd.prog) (w := w4) Tryd.underlying87 Tryd.underlying5 Tryd.underlying9 (a := some ⟨w.heap.size, 0, none⟩) (c := 1) (bs := [c0]) (n := 1) rfl (by rw [HOR.out]; exact Cells.ext (Cells.ext (Cells.lit rfl [.int .u8 (d : Int)] _ _) (Ext.refl _).drew) hx4)) | skip))
      all_goals
        go_wp2
        go_ret
        refine ⟨?_, ?_⟩
        · show Ending.returned (.string (bstr [c0] ++ bstr (uintB q))) = _
          rw [bstr_append]
          rfl
        · first
            | exact (((Ext.refl _).alloc _).drew).trans hx4
            | exact ((Ext.refl _).drew.trans hx4).alloc _

theorem refInt_calls (n : Int) (w : World) (h0 : -9223372036854775808 ≤ n) (h1 : n ≤ 9223372036854775807) :
    Calls Tryd.prog 87 #[.int .i64 n] w fun e w' => e = .returned (.string (bstr (intB n))) ∧ Ext w w' := by
  have hz := zig_lt h0 h1
  by_cases h : 0 ≤ n
  · have e1 : IntKind.u64.wrap (2 * IntKind.u64.wrap n) = (zig n : Int) := by rw [IntKind.wrap_u64, IntKind.wrap_u64]; unfold zig; rw [if_pos h]; omega
    have HZ := Lib.hid hz
    clear h0 h1 hz
    go_enter Tryd.func87, Tryd.ntmps87
    go_wp2_with (go_at_call 85; (with_reducible refine (refUint_calls (zig n) _ HZ.out).mono ?_); rintro e w1 ⟨rfl, hx1⟩)
    go_ret
    exact ⟨rfl, hx1⟩
  · have e1 : IntKind.u64.wrap (IntKind.u64.wrap (2 * IntKind.u64.wrap (wrap64 (-wrap64 (n + 1)))) + 1) = (zig n : Int) := by rw [IntKind.wrap_u64, IntKind.wrap_u64, IntKind.wrap_u64]; unfold zig wrap64; rw [if_neg h]; omega
    have HZ := Lib.hid hz
    clear h0 h1 hz
    go_enter Tryd.func87, Tryd.ntmps87
    go_wp2_with (go_at_call 85; (with_reducible refine (refUint_calls (zig n) _ HZ.out).mono ?_); rintro e w1 ⟨rfl, hx1⟩)
    go_ret
    exact ⟨rfl, hx1⟩

theorem refText_calls (s : ByteArray) (w : World) (h0 : s.size ≤ 140737488351232) :
    Calls Tryd.prog 53 #[.string s] w fun e w' => e = .returned (.string (bstr (textB s.data.toList))) ∧ Ext w w' := by
  have hz2 : (bstr (uintB s.size)).size ≤ 10 := by rw [bstr_size]; exact sizeN_64 (by omega)
  go_enter Tryd.func53, Tryd.ntmps53
  go_wp2_with (go_at_call 85; (with_reducible refine (refUint_calls s.size _ (by omega)).mono ?_); rintro e w1 ⟨rfl, hx1⟩)
  go_ret
  refine ⟨?_, hx1⟩
  show Ending.returned (.string (bstr (uintB s.size) ++ s)) = _
  unfold textB
  rw [str_len, ← bstr_append, bstr_of]

/-- Block g is a reader of the reference that has r. -/
def RRdr (w : World) (g : Nat) (r : PR) : Prop := Blk w g 131 #[.string (bstr r.b), .bool r.bad] ∧ r.b.length ≤ 140737488351232
theorem RRdr.ext {w w' : World} {g : Nat} {r : PR} (h : RRdr w g r) (k : Ext w w') : RRdr w' g r := ⟨h.1.ext k, h.2⟩
theorem Turns.rrdr {w w' : World} {g g' : Nat} {r : PR} (h : Turns w w' g) (hr : RRdr w g' r) (hne : g' ≠ g) : RRdr w' g' r := ⟨h.blk hr.1 hne, hr.2⟩

theorem rrfail_calls (g : Nat) (r : PR) (w : World) (h : RRdr w g r) :
    Calls Tryd.prog 97 #[.pointer (some ⟨g, 0, none⟩)] w fun e w' => e = .returned (.tuple #[]) ∧ RRdr w' g PR.fail ∧ Turns w w' g := by
  obtain ⟨h1, h2⟩ := h
  have c0 : w.cell? ⟨g, 0, none⟩ = some (.string (bstr r.b)) := by rw [h1.cell]; rfl
  have c1 : w.cell? ⟨g, 1, none⟩ = some (.bool r.bad) := by rw [h1.cell]; rfl
  have f0 := h1.frozen 0
  have f1 := h1.frozen 1
  go_enter Tryd.func97, Tryd.ntmps97
  go_wp2
  go_end0
  exact ⟨rfl, ⟨(h1.set 1 (.bool true)).set 0 (.string ⟨#[]⟩), by simp [PR.fail]⟩, (grown_set w g 1 _).trans (grown_set _ g 0 _)⟩

theorem rrgood_calls (g : Nat) (r : PR) (w : World) (h : RRdr w g r) :
    Calls Tryd.prog 70 #[.pointer (some ⟨g, 0, none⟩)] w fun e w' => e = .returned (.bool (!r.bad)) ∧ w = w' := by
  obtain ⟨h1, h2⟩ := h
  have c1 : w.cell? ⟨g, 1, none⟩ = some (.bool r.bad) := by rw [h1.cell]; rfl
  go_enter Tryd.func70, Tryd.ntmps70
  go_wp2
  go_ret
  exact ⟨rfl, rfl⟩

theorem rrend_calls (g : Nat) (r : PR) (w : World) (h : RRdr w g r) :
    Calls Tryd.prog 74 #[.pointer (some ⟨g, 0, none⟩)] w fun e w' => e = .returned (.bool r.end_) ∧ w = w' := by
  obtain ⟨h1, h2⟩ := h
  have c0 : w.cell? ⟨g, 0, none⟩ = some (.string (bstr r.b)) := by rw [h1.cell]; rfl
  have c1 : w.cell? ⟨g, 1, none⟩ = some (.bool r.bad) := by rw [h1.cell]; rfl
  have hd : (bstr r.b).toList.isEmpty = (r.b.length == 0) := by
    rw [ByteArray.toList_eq, bstr_data]
    cases r.b <;> rfl
  cases hb : r.bad with
  | true =>
    rw [hb] at c1
    go_enter Tryd.func74, Tryd.ntmps74
    go_wp2
    go_ret
    exact ⟨ret_bool (by unfold PR.end_; rw [hb]; rfl), rfl⟩
  | false =>
    rw [hb] at c1
    go_enter Tryd.func74, Tryd.ntmps74
    go_wp2
    go_ret
    refine ⟨ret_bool ?_, rfl⟩
    unfold PR.end_
    rw [hb]
    rfl

set_option maxRecDepth 50000 in
set_option maxHeartbeats 2000000 in
theorem rruint_calls (g : Nat) (r : PR) (w : World) (h : RRdr w g r) :
    Calls Tryd.prog 98 #[.pointer (some ⟨g, 0, none⟩)] w fun e w' => e = .returned (.int .u64 (r.uint.1 : Nat)) ∧ RRdr w' g r.uint.2 ∧ Turns w w' g := by
  have hr := h
  obtain ⟨h1, h3⟩ := h
  have c0 : w.cell? ⟨g, 0, none⟩ = some (.string (bstr r.b)) := by rw [h1.cell]; rfl
  have f0 := h1.frozen 0
  have hsz := bstr_size r.b
  go_enter Tryd.func98, Tryd.ntmps98
  go_wp2
  go_loopg [3] (r.b.length) (fun k i wr => ∃ j : Nat, i = .int .i64 j ∧ j + k = r.b.length ∧ Aside (∀ i (h : i < j), ∃ h' : i < r.b.length, 128 ≤ (r.b[i]).toNat) ∧ wr = w)
  case atStart => exact ⟨0, rfl, by omega, fun i h => absurd h (by omega), rfl⟩
  case round =>
    obtain ⟨e, rfl, hk, hA, rfl⟩ := hrel
    by_cases hlt : e < r.b.length
    · obtain ⟨b, hb⟩ : ∃ b, b = r.b[e] := ⟨_, rfl⟩
      have hget : ∀ h' : e < (bstr r.b).size, (bstr r.b)[e]'h' = b := fun h' => (bstr_get hlt h').trans hb.symm
      by_cases h128 : 128 ≤ b.toNat
      · have HB := Lib.hid (And.intro hb h128)
        obtain ⟨k, rfl⟩ : ∃ k, gk = k + 1 := ⟨gk - 1, by omega⟩
        clear hb
        go_wp2
        go_roundg k
        case measure => omega
        case rel =>
          refine ⟨e + 1, by go_num, by omega, ?_, rfl⟩
          intro i hi
          rcases Nat.lt_or_ge i e with h | h
          · exact hA i h
          · obtain rfl : i = e := by omega
            exact ⟨hlt, by rw [← HB.out.1]; exact HB.out.2⟩
      · have hlead := uint_lead r e hlt (fun i h => (hA i h).2) (by rw [← hb]; omega)
        rw [← hb] at hlead
        have HB := Lib.hid hb
        clear hb hA
        by_cases hbad : 9 < e ∨ (e = 9 ∧ 1 < b.toNat) ∨ (0 < e ∧ b.toNat = 0)
        · rw [if_pos hbad] at hlead
          have HR := Lib.hid hlead
          clear hlead
          by_cases h9 : 9 < e
          · clear hbad
            go_wp2_with (go_at_call 97; (with_reducible refine (rrfail_calls g r _ hr).mono ?_); rintro e w2 ⟨rfl, hr2, ht2⟩)
            go_ret
            rw [HR.out]
            exact ⟨rfl, hr2, ht2⟩
          · by_cases hz : 0 < e ∧ b.toNat = 0
            · have h0 := hz.1
              have ez : (((b.toNat : Int) == 0) : Bool) = true := by rw [beq_iff_eq]; omega
              clear hbad hz
              go_wp2_with (go_at_call 97; (with_reducible refine (rrfail_calls g r _ hr).mono ?_); rintro e w2 ⟨rfl, hr2, ht2⟩)
              go_ret
              rw [HR.out]
              exact ⟨rfl, hr2, ht2⟩
            · have e9 : (((e : Int) == 9) : Bool) = true := by rw [beq_iff_eq]; omega
              have hb1 : 1 < b.toNat := by omega
              have h0 : 0 < e := by omega
              have ez : (((b.toNat : Int) == 0) : Bool) = false := by rw [beq_eq_false_iff_ne]; omega
              have h99 : 9 < r.b.length := by omega
              have hget9 : ∀ h' : 9 < (bstr r.b).size, (bstr r.b)[9]'h' = b := fun h' => by
                obtain rfl : e = 9 := by omega
                exact hget h'
              clear hbad hz
              go_wp2_with (go_at_call 97; (with_reducible refine (rrfail_calls g r _ hr).mono ?_); rintro e w2 ⟨rfl, hr2, ht2⟩)
              go_ret
              rw [HR.out]
              exact ⟨rfl, hr2, ht2⟩
        · rw [if_neg hbad] at hlead
          have HR := Lib.hid hlead
          clear hlead
          have h9 : e ≤ 9 := by omega
          have hdl := fun i => digits_lt r.b e i hlt h9 (fun h => by rw [← HB.out]; omega)
          have HDL := Lib.hid hdl
          clear hdl
          -- three ways to the loop of the digits
          have hc3 : (((e : Int) == 9) = true ∧ b.toNat ≤ 1 ∧ 0 < e ∧ (((b.toNat : Int) == 0) : Bool) = false ∧ 9 < r.b.length ∧ ∀ h' : 9 < (bstr r.b).size, (bstr r.b)[9]'h' = b) ∨ (((e : Int) == 9) = false ∧ 0 < e ∧ (((b.toNat : Int) == 0) : Bool) = false) ∨ (((e : Int) == 9) = false ∧ ¬ 0 < e) := by
            rcases Nat.lt_or_ge 0 e with h0 | h0
            · have hz : (((b.toNat : Int) == 0) : Bool) = false := by rw [beq_eq_false_iff_ne]; omega
              rcases Nat.lt_or_ge e 9 with h9 | h9
              · exact .inr (.inl ⟨by rw [beq_eq_false_iff_ne]; omega, h0, hz⟩)
              · exact .inl ⟨by rw [beq_iff_eq]; omega, by omega, h0, hz, by omega, fun h' => by
                  obtain rfl : e = 9 := by omega
                  exact hget h'⟩
            · exact .inr (.inr ⟨by rw [beq_eq_false_iff_ne]; omega, by omega⟩)
          clear hbad
          rcases hc3 with ⟨e9, hb1, h0, ez, h99, hget9⟩ | ⟨e9, h0, ez⟩ | ⟨e9, h0⟩
          all_goals
            go_wp2
            go_loopg [4, 5] (e + 1) (fun k v i wr' => k ≤ e + 1 ∧ i = .int .i64 ((k : Int) - 1) ∧ v = .int .u64 ((valL ((r.b.take (e + 1)).drop k) : Nat) : Int) ∧ wr' = wr)
            case atStart =>
              refine ⟨Nat.le_refl _, by rw [show ((e + 1 : Nat) : Int) - 1 = (e : Int) by omega], ?_, rfl⟩
              rw [List.drop_of_length_le (by rw [List.length_take]; omega)]
              rfl
            case round =>
              obtain ⟨hke, rfl, rfl, rfl⟩ := hrel
              obtain ⟨q, hq⟩ : ∃ q, q = valL ((r.b.take (e + 1)).drop gk) := ⟨_, rfl⟩
              rw [← hq]
              have HQ := Lib.hid hq
              clear hq
              cases gk with
              | succ k =>
                have hkl : k < r.b.length := by omega
                obtain ⟨d, hd⟩ : ∃ d, d = r.b[k] := ⟨_, rfl⟩
                have hgetk : ∀ h' : k < (bstr r.b).size, (bstr r.b)[k]'h' = d := fun h' => (bstr_get hkl h').trans hd.symm
                have HD := Lib.hid hd
                clear hd
                rw [show ((k + 1 : Nat) : Int) - 1 = (k : Int) by omega]
                go_wp2
                go_roundg k
                case measure => omega
                case rel =>
                  have hkt : k < (r.b.take (e + 1)).length := by rw [List.length_take]; omega
                  have hdr : (r.b.take (e + 1)).drop k = d :: (r.b.take (e + 1)).drop (k + 1) := by
                    rw [List.drop_eq_getElem_cons hkt, List.getElem_take, ← HD.out]
                  have hlt64 := HDL.out k
                  rw [hdr] at hlt64 ⊢
                  have hvl : valL (d :: (r.b.take (e + 1)).drop (k + 1)) = d.toNat % 128 + 128 * valL ((r.b.take (e + 1)).drop (k + 1)) := rfl
                  rw [hvl] at hlt64 ⊢
                  rw [← HQ.out] at hlt64 ⊢
                  refine ⟨by omega, rfl, ?_, rfl⟩
                  rw [IntKind.wrap_u64, IntKind.wrap_u64]
                  congr 1
                  omega
              | zero =>
                go_wp2
                go_ret
                rw [HR.out]
                have HQ' := HQ.out
                rw [List.drop_zero] at HQ'
                rw [← HQ']
                refine ⟨rfl, ⟨?_, by simp; omega⟩, grown_set wr g 0 _⟩
                have hset := h1.set 0 (.string ((bstr r.b).extract (e + 1) r.b.length))
                rw [bstr_extract, List.take_length] at hset
                first
                  | exact hset
                  | (rw [bstr_extract, List.take_length]; exact hset)
    · have hres := uint_none r (fun i h => (hA i (by omega)).2)
      have HR := Lib.hid hres
      clear hres hA
      go_wp2_with (go_at_call 97; (with_reducible refine (rrfail_calls g r _ hr).mono ?_); rintro e w2 ⟨rfl, hr2, ht2⟩)
      go_ret
      rw [HR.out]
      exact ⟨rfl, hr2, ht2⟩
end Go.Proofs.YtcnhbodemabbdaaDoor
