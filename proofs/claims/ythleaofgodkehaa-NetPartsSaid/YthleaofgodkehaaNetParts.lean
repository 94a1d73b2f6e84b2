/- NetParts: what comes is an answer that the peer gave, as it was, or with one bit turned; no more answers wait than there were questions: the walk of the law. Printed by wip/mknetparts.py. -/
import Derived.Test.YthleaofgodkehaaNear
namespace Go.Proofs.Ythleaofgodkehaa
open Go.RowKit
set_option linter.unusedVariables false

theorem askP_parts (fs : List UInt8) (ls : List ByteArray) (s : ByteArray) : (∀ t ∈ (askP fs ls (some s)).2.1, t ∈ ls ∨ t = s) ∧ ∀ g, (askP fs ls (some s)).2.2 = some g → (g ∈ ls ∨ g = s) ∨ nearP g s = true := by
  have hall : ∀ t ∈ ls ++ [s], t ∈ ls ∨ t = s := fun t ht => by simpa using ht
  have htl : ∀ t ∈ (ls ++ [s]).tail, t ∈ ls ∨ t = s := fun t ht => hall t (List.mem_of_mem_tail ht)
  have hhd : ∀ g, (ls ++ [s]).head? = some g → g ∈ ls ∨ g = s := fun g hg => hall g (List.mem_of_mem_head? hg)
  unfold askP
  split
  · exact ⟨fun t ht => .inl ht, fun g hg => by cases hg⟩
  · simp only [goP]
    split
    · exact ⟨fun t ht => .inl ht, fun g hg => by cases hg⟩
    · split
      · refine ⟨fun t ht => .inl ht, fun g hg => ?_⟩
        by_cases hs : s.size = 0
        · simp only [hs, if_true] at hg
          cases hg
        · simp only [if_neg hs] at hg
          cases hg
          exact .inr (near_turn s _ hs)
      · split
        · exact ⟨hall, fun g hg => by cases hg⟩
        · split
          · exact ⟨htl, fun g hg => .inl (hhd g hg)⟩
          · split
            · exact ⟨hall, fun g hg => by cases hg; exact .inl (.inr rfl)⟩
            · exact ⟨fun t ht => .inl ht, fun g hg => by cases hg; exact .inl (.inr rfl)⟩
theorem str_ne {s t : ByteArray} (h : s ≠ t) : (s.toList == t.toList) = false := by
  rw [beq_eq_false_iff_ne]
  intro e
  rw [ByteArray.toList_eq, ByteArray.toList_eq] at e
  exact h (by rw [← bstr_of s, ← bstr_of t, e])

set_option maxRecDepth 50000 in
set_option maxHeartbeats 8000000 in
theorem netParts_calls (A : Option Addr) (n c : Nat) (fs : List UInt8) (A2 : Option Addr) (n2 c2 : Nat) (ts : List ByteArray) (w : World)
    (h1 : Cells w A (bv fs)) (hn1 : fs.length = n) (hc1 : n ≤ c) (hl1 : n ≤ 140737488351232)
    (h2 : Cells w A2 (ts.map Value.string)) (hn2 : ts.length = n2) (hc2 : n2 ≤ c2) (hi2 : ∀ t ∈ ts, t.size ≤ 140737488351232) :
    Calls Try.prog 6 #[.slice A n c, .slice A2 n2 c2] w fun e w' => e = .returned (.bool true) ∧ Ext w w' := by
  have H1 := Lib.hid h1
  have N1 := Lib.hid hn1
  have H2 := Lib.hid h2
  have N2 := Lib.hid hn2
  have I2 := Lib.hid hi2
  clear h1 hn1 h2 hn2 hi2
  have d1 : 1 ≤ 140737488351232 := by decide
  have ID1 : ∀ (n : Nat) (p : Value) (w : World) (Q : Ending → World → Prop), Calls Try.prog 13 #[.pointer (some ⟨n, 0, none⟩), p, .agg (bv (idK 1)).toArray] w Q → Calls Try.prog 13 #[.pointer (some ⟨n, 0, none⟩), p, .agg #[.int .u8 1, .int .u8 0, .int .u8 0, .int .u8 0, .int .u8 0, .int .u8 0, .int .u8 0, .int .u8 0, .int .u8 0, .int .u8 0, .int .u8 0, .int .u8 0, .int .u8 0, .int .u8 0, .int .u8 0, .int .u8 0, .int .u8 0, .int .u8 0, .int .u8 0, .int .u8 0, .int .u8 0, .int .u8 0, .int .u8 0, .int .u8 0, .int .u8 0, .int .u8 0, .int .u8 0, .int .u8 0, .int .u8 0, .int .u8 0, .int .u8 0, .int .u8 0, .int .u8 0]] w Q := fun _ _ _ _ h => h
  have hone : ∀ (s : ByteArray), ∀ p ∈ [((idK 1, s) : Ent1)], p.1.length = 33 := fun s p hp => by rw [List.mem_singleton] at hp; subst hp; rfl
  go_enter Try.func6, Try.ntmps6
  by_cases hb1 : (1024 : Int) < (n : Int)
  · go_wp2_with (go_at_call 8; (with_reducible refine (net_alive w).mono ?_); rintro e w1 ⟨rfl, hx1⟩)
    go_ret
    exact ⟨rfl, hx1⟩
  by_cases hb2 : (60 : Int) < (n2 : Int)
  · go_wp2_with (go_at_call 8; (with_reducible refine (net_alive w).mono ?_); rintro e w1 ⟨rfl, hx1⟩)
    go_ret
    exact ⟨rfl, hx1⟩
  go_upto_region 9 with (first
    | (go_at_call 8; (with_reducible refine (net_alive w).mono ?_); rintro e w1 ⟨rfl, hx1⟩)
    | (go_at_call 12; (with_reducible refine (netNew_calls A n c fs w1 (H1.out.ext hx1) N1.out hc1 hl1).mono ?_); rintro e w3 ⟨na, rfl, hna, hA3, hx3⟩; have hx03 := hx1.trans hx3)
    | (go_at_call 10; (with_reducible refine (newPool_calls w3).mono ?_); rintro e w4 ⟨gp, bp, rfl, hgp, hbp, hP4, hx4⟩; have hx04 := hx03.trans hx4)
    | (refine wpList_store_blk rfl 38 (.tmp 7) (.tmp 28) rfl rfl w4.heap.size (bv (idK 1)).toArray rfl rfl _ _ (Blk.new w4 _ _) rfl (by kernel_rfl) (bv_cells (idK 1)) ?_; intro w6 hb6 hg6; have hx6 : Ext w4 w6 := ((Ext.refl _).alloc _).grown_ hg6 (by simp); have hxw6 := hx04.trans hx6))
  obtain ⟨gi, hgi⟩ : ∃ gi, gi = w4.heap.size := ⟨_, rfl⟩
  rw [← hgi] at hb6 ⊢
  have hA0 : w.heap.size ≤ na := Nat.le_trans hx1.size hna
  have hbp0 : w.heap.size ≤ bp := Nat.le_trans hx03.size hbp
  have HI7 := Lib.hid hb6
  have hA7 := Lib.hid ((hA3.lower hx1.size).ext (hx4.trans hx6))
  have HP7 := Lib.hid (hP4.ext hx6)
  clear hb6 hg6 hgi hA3 hP4
  go_loopw [31] (fun i wr => ∃ (k : Nat) (fs' : List UInt8) (ls : List ByteArray) (qa : Option Nat) (L : List Ent1), k ≤ n2 ∧ i = .int .i64 k ∧ ls.length ≤ k ∧ Ext w wr ∧ Hid (∀ t ∈ ls, t ∈ ts.take k) ∧ Hid (NetAt w.heap.size wr na qa fs' ls k) ∧ Hid (PoolAt wr gp bp L) ∧ Hid (Blk wr gi 38 (bv (idK 1)).toArray)) (fun i _ => n2 - (intOf i).toNat)
  case atStart => exact ⟨0, fs, [], none, [], Nat.zero_le _, rfl, Nat.le_refl _, hxw6, Lib.hid (fun t h => by cases h), hA7, HP7, HI7⟩
  case round =>
    clear hA7 HP7 HI7
    obtain ⟨k, fs', ls, qa, L, hk, rfl, hls, hx, HLS, hA, hP, hI⟩ := hrel
    by_cases hlt : k < n2
    · have hkl : k < ts.length := by rw [N2.out]; exact hlt
      obtain ⟨ad, rfl, hcell0⟩ := H2.out k (.string ts[k]) (by rw [List.getElem?_map, List.getElem?_eq_getElem hkl]; rfl)
      have hssz := I2.out _ (List.getElem_mem hkl)
      have htk : ts.take (k + 1) = ts.take k ++ [ts[k]] := List.take_succ_eq_append_getElem hkl
      obtain ⟨s, hs⟩ : ∃ s, s = ts[k] := ⟨_, rfl⟩
      rw [← hs] at hcell0 hssz htk
      have hcell := hx.cell hcell0
      have HTK := Lib.hid htk
      clear hs hcell0 htk hkl
      have hp0 : (0 : Int) ≤ (k : Int) := by omega
      have hp1 : (k : Int) < (n2 : Int) := by omega
      by_cases hbig : (256 : Int) < (s.size : Int)
      · go_wp2
        go_ret
        exact ⟨rfl, hx⟩
      have hbig' : ¬ ((256 : Int) < (s.size : Int)) := hbig
      have HC8 := Lib.hid (show ∀ (j : Nat) (v : Value), ([.int .u8 1, .int .u8 0, .int .u8 0, .int .u8 0, .int .u8 0, .int .u8 0, .int .u8 0, .int .u8 0, .int .u8 0, .int .u8 0, .int .u8 0, .int .u8 0, .int .u8 0, .int .u8 0, .int .u8 0, .int .u8 0, .int .u8 0, .int .u8 0, .int .u8 0, .int .u8 0, .int .u8 0, .int .u8 0, .int .u8 0, .int .u8 0, .int .u8 0, .int .u8 0, .int .u8 0, .int .u8 0, .int .u8 0, .int .u8 0, .int .u8 0, .int .u8 0, .int .u8 0] : List Value)[j]? = some v → wr.cell? ((⟨gi, 0, none⟩ : Addr).add j) = some v from id_cells hI.out)
      obtain ⟨fs2, ls2, r, hR⟩ : ∃ fs2 ls2 r, askP fs' ls (some s) = (fs2, ls2, r) := ⟨_, _, _, rfl⟩
      have hlen2 : ls2.length ≤ k + 1 := by
        have := askP_len fs' ls (some s)
        rw [hR] at this
        have h' : ls2.length ≤ ls.length + 1 := this
        omega
      obtain ⟨hpa, hpb⟩ := askP_parts fs' ls s
      rw [hR] at hpa hpb
      have hls2 : ∀ t ∈ ls2, t ∈ ts.take (k + 1) := fun t ht => by
        rw [HTK.out]
        exact (hpa t ht).elim (fun h => List.mem_append_left _ (HLS.out t h)) (fun h => by rw [h]; exact List.mem_append_right _ (List.mem_singleton_self _))
      obtain ⟨S, hS⟩ : ∃ S, S = r.getD ByteArray.empty := ⟨_, rfl⟩
      obtain ⟨T, hT⟩ : ∃ T, T = r.isSome := ⟨_, rfl⟩
      have hkey : T = true → ∃ t ∈ ts.take (k + 1), S = t ∨ nearP S t = true := fun hTt => by
        cases hr : r with
        | none => rw [hT, hr] at hTt; cases hTt
        | some g =>
          have hSg : S = g := by rw [hS, hr]; rfl
          rw [hSg, HTK.out]
          rcases hpb g hr with (h | h) | h
          · exact ⟨g, List.mem_append_left _ (HLS.out g h), .inl rfl⟩
          · exact ⟨s, List.mem_append_right _ (List.mem_singleton_self _), .inl h⟩
          · exact ⟨s, List.mem_append_right _ (List.mem_singleton_self _), .inr h⟩
      obtain ⟨L', hL'⟩ : ∃ L', L' = putAll [(idK 1, s)] L := ⟨_, rfl⟩
      have hat : at1 (idK 1) L' = some s := by
        rw [hL']
        show at1 (idK 1) (put1 (idK 1) s L) = some s
        rw [at1_put, if_pos (beq_self_eq_true _)]
      have hk6 : k < 1000000 := by omega
      have hl6 : ls.length ≤ 100000 := by omega
      have HRA := Lib.hid (show askP fs' ls (at1 (idK 1) L') = (fs2, ls2, r) from by rw [hat]; exact hR)
      have HS := Lib.hid hS
      have HT := Lib.hid hT
      have HL := Lib.hid hL'
      have HKEY := Lib.hid hkey
      have HLS2 := Lib.hid hls2
      clear hR hS hT hL' hat hpa hpb hkey hls2 hssz
      go_upto_region 17 with (first
        | (refine wpList_load_row_ rfl 38 (.tmp 7) rfl ⟨gi, 0, none⟩ rfl ([.int .u8 1, .int .u8 0, .int .u8 0, .int .u8 0, .int .u8 0, .int .u8 0, .int .u8 0, .int .u8 0, .int .u8 0, .int .u8 0, .int .u8 0, .int .u8 0, .int .u8 0, .int .u8 0, .int .u8 0, .int .u8 0, .int .u8 0, .int .u8 0, .int .u8 0, .int .u8 0, .int .u8 0, .int .u8 0, .int .u8 0, .int .u8 0, .int .u8 0, .int .u8 0, .int .u8 0, .int .u8 0, .int .u8 0, .int .u8 0, .int .u8 0, .int .u8 0, .int .u8 0] : List Value) _ HC8.out Try.underlying38 rfl (by rw [id_info]; rfl) ?_)
        | (go_at_call 11; have hrow := row_one (o := (idK 1, s)) (show Blk (wr.alloc (.cells #[.int .u8 1, .int .u8 0, .int .u8 0, .int .u8 0, .int .u8 0, .int .u8 0, .int .u8 0, .int .u8 0, .int .u8 0, .int .u8 0, .int .u8 0, .int .u8 0, .int .u8 0, .int .u8 0, .int .u8 0, .int .u8 0, .int .u8 0, .int .u8 0, .int .u8 0, .int .u8 0, .int .u8 0, .int .u8 0, .int .u8 0, .int .u8 0, .int .u8 0, .int .u8 0, .int .u8 0, .int .u8 0, .int .u8 0, .int .u8 0, .int .u8 0, .int .u8 0, .int .u8 0, .string s] 46)) _ _ (obC (idK 1, s)).toArray from Blk.new wr _ _) rfl; have hx8a := (Ext.refl wr).alloc (.cells #[.int .u8 1, .int .u8 0, .int .u8 0, .int .u8 0, .int .u8 0, .int .u8 0, .int .u8 0, .int .u8 0, .int .u8 0, .int .u8 0, .int .u8 0, .int .u8 0, .int .u8 0, .int .u8 0, .int .u8 0, .int .u8 0, .int .u8 0, .int .u8 0, .int .u8 0, .int .u8 0, .int .u8 0, .int .u8 0, .int .u8 0, .int .u8 0, .int .u8 0, .int .u8 0, .int .u8 0, .int .u8 0, .int .u8 0, .int .u8 0, .int .u8 0, .int .u8 0, .int .u8 0, .string s] 46); (with_reducible refine (put_calls gp bp L [(idK 1, s)] (some ⟨wr.heap.size, 0, none⟩) 1 1 _ (hP.out.ext hx8a) hrow rfl d1 (hone s)).mono ?_); rintro e w9 ⟨rfl, hP9, hg9⟩; have hxw9 : Ext w w9 := (hx.trans hx8a).grown_ hg9 (fun j e => by cases e; exact hbp0); have hmp := (hP.out.ext hx8a).map; have hA9 := Lib.hid ((hA.out.ext hx8a).put hmp hg9); have hI9 := Lib.hid ((hI.out.ext hx8a).grown hg9 (fun e => hmp.ne_blk (hI.out.ext hx8a) (Option.some.inj e))); rw [← HL.out] at hP9; have hP9 := Lib.hid hP9; have HC9 := Lib.hid (show ∀ (j : Nat) (v : Value), ([.int .u8 1, .int .u8 0, .int .u8 0, .int .u8 0, .int .u8 0, .int .u8 0, .int .u8 0, .int .u8 0, .int .u8 0, .int .u8 0, .int .u8 0, .int .u8 0, .int .u8 0, .int .u8 0, .int .u8 0, .int .u8 0, .int .u8 0, .int .u8 0, .int .u8 0, .int .u8 0, .int .u8 0, .int .u8 0, .int .u8 0, .int .u8 0, .int .u8 0, .int .u8 0, .int .u8 0, .int .u8 0, .int .u8 0, .int .u8 0, .int .u8 0, .int .u8 0, .int .u8 0] : List Value)[j]? = some v → w9.cell? ((⟨gi, 0, none⟩ : Addr).add j) = some v from id_cells hI9.out); clear hg9 hmp hrow)
        | (refine wpList_load_row_ rfl 38 (.tmp 7) rfl ⟨gi, 0, none⟩ rfl ([.int .u8 1, .int .u8 0, .int .u8 0, .int .u8 0, .int .u8 0, .int .u8 0, .int .u8 0, .int .u8 0, .int .u8 0, .int .u8 0, .int .u8 0, .int .u8 0, .int .u8 0, .int .u8 0, .int .u8 0, .int .u8 0, .int .u8 0, .int .u8 0, .int .u8 0, .int .u8 0, .int .u8 0, .int .u8 0, .int .u8 0, .int .u8 0, .int .u8 0, .int .u8 0, .int .u8 0, .int .u8 0, .int .u8 0, .int .u8 0, .int .u8 0, .int .u8 0, .int .u8 0] : List Value) _ HC9.out Try.underlying38 rfl (by rw [id_info]; rfl) ?_)
        | (go_at_call 13; have hask := ID1 _ _ _ _ (ask_told hA9.out hk6 hxw9.size hl6 hP9.out (idK_len 1) HRA.out HS.out HT.out); (with_reducible refine hask.mono ?_); rintro e w10 ⟨qa', rfl, hA10, ht10, hqa⟩; have hxw10 := ht10.ext hxw9 hA0 hA9.out.ge; have hI10 := Lib.hid (idblk_two hI9.out hA9.out ht10); have hA10 := Lib.hid hA10; have hP10 := Lib.hid (hP9.out.two hA9.out ht10); clear ht10 hask))
      have hnear := fun (a b : ByteArray) (w : World) (hb : b.size ≤ 140737488351232) => near_calls a b w hb
      have HNEAR := Lib.hid hnear
      clear hnear
      go_loopw [60, 12] (fun i v wr' => ∃ (j : Nat) (b : Bool), j ≤ k + 1 ∧ i = .int .i64 j ∧ v = .bool b ∧ Ext w10 wr' ∧ Hid ((T = false ∨ ∃ t ∈ ts.take j, S = t ∨ nearP S t = true) → b = true)) (fun i _ _ => k + 1 - (intOf i).toNat)
      case atStart => exact ⟨0, !T, Nat.zero_le _, rfl, rfl, Ext.refl _, Lib.hid (fun h => h.elim (fun h => by rw [h]; rfl) (fun ⟨t, ht, _⟩ => absurd ht (by rw [List.take_zero]; exact List.not_mem_nil)))⟩
      case round =>
        obtain ⟨j, b, hj, rfl, rfl, hx2, HB⟩ := hrel
        by_cases hjk : j < k + 1
        · have hjt : j < ts.length := by rw [N2.out]; omega
          obtain ⟨_, e, hcj0⟩ := H2.out j (.string ts[j]) (by rw [List.getElem?_map, List.getElem?_eq_getElem hjt]; rfl)
          cases e
          have htsz := I2.out _ (List.getElem_mem hjt)
          have htj : ts.take (j + 1) = ts.take j ++ [ts[j]] := List.take_succ_eq_append_getElem hjt
          obtain ⟨t, ht⟩ : ∃ t, t = ts[j] := ⟨_, rfl⟩
          rw [← ht] at hcj0 htsz htj
          have hcj := (hxw10.trans hx2).cell hcj0
          have HTJ := Lib.hid htj
          clear ht hcj0 htj hjt
          have hq0 : (0 : Int) ≤ (j : Int) := by omega
          have hq1 : (j : Int) < (k : Int) + 1 := by omega
          have hnew : ∀ b' : Bool, (b = true → b' = true) → (S = t → b' = true) → (nearP S t = true → b' = true) → (T = false ∨ ∃ t ∈ ts.take (j + 1), S = t ∨ nearP S t = true) → b' = true := fun b' e1 e2 e3 h => by
            rcases h with h | ⟨u, hu, h⟩
            · exact e1 (HB.out (.inl h))
            · rw [HTJ.out] at hu
              rcases List.mem_append.1 hu with hu | hu
              · exact e1 (HB.out (.inr ⟨u, hu, h⟩))
              · rw [List.mem_singleton] at hu
                subst hu
                exact h.elim e2 e3
          have HNEW := Lib.hid hnew
          clear hnew
          cases b
          · by_cases hST : S = t
            · have hst : (S.toList == t.toList) = true := by rw [hST]; exact beq_self_eq_true _
              clear hcell
              go_wp2
              go_roundw
              case rel => exact ⟨j + 1, true, by omega, by go_num, by first | rfl | simp [hst], hx2, Lib.hid (HNEW.out true (fun _ => rfl) (fun _ => rfl) (fun _ => rfl))⟩
              case measure => simp [intOf]; omega
            · have hst := str_ne hST
              clear hcell
              go_wp2_with (go_at_call 18; (with_reducible refine (HNEAR.out S t _ htsz).mono ?_); rintro e w11 ⟨rfl, hx11⟩)
              go_roundw
              case rel => exact ⟨j + 1, nearP S t, by omega, by go_num, by first | rfl | simp, hx2.trans hx11, Lib.hid (HNEW.out _ (fun h => by cases h) (fun h => absurd h hST) (fun h => h))⟩
              case measure => simp [intOf]; omega
          · clear hcell
            go_wp2
            go_roundw
            case rel => exact ⟨j + 1, true, by omega, by go_num, by first | rfl | simp, hx2, Lib.hid (HNEW.out true (fun _ => rfl) (fun _ => rfl) (fun _ => rfl))⟩
            case measure => simp [intOf]; omega
        · obtain rfl : j = k + 1 := by omega
          have hb : b = true := HB.out (by
            cases hT : T with
            | false => exact .inl rfl
            | true => exact .inr (HKEY.out hT))
          subst hb
          have hA11 := Lib.hid (hA10.out.ext hx2)
          have hlate : ¬ ((k : Int) + 1 < (ls2.length : Int)) := by omega
          go_wp2_with (first
            | (go_at_call 17; (with_reducible refine (late_calls _ na qa' fs2 ls2 (k + 1) wr hA11.out).mono ?_); rintro e w12 ⟨rfl, rfl⟩)
            | (go_at_call 16; (with_reducible refine (asked_calls _ na qa' fs2 ls2 (k + 1) wr hA11.out).mono ?_); rintro e w13 ⟨rfl, rfl⟩))
          go_roundw
          case rel => exact ⟨k + 1, fs2, ls2, qa', L', by omega, by go_num, hlen2, hxw10.trans hx2, HLS2, hA11, Lib.hid (hP10.out.ext hx2), Lib.hid (hI10.out.ext hx2)⟩
          case measure => simp [intOf]; omega
    · obtain rfl : n2 = k := by omega
      go_wp2
      go_ret
      exact ⟨rfl, hx⟩
end Go.Proofs.Ythleaofgodkehaa
