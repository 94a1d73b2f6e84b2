/- NetKeeps: what is handed in stays, and isn't kept: the walk of the law. Printed by wip/mknetkeeps.py. -/
import Derived.Test.YthleaofgodkehaaRefAll
namespace Go.Proofs.Ythleaofgodkehaa
open Go.RowKit
set_option linter.unusedVariables false

theorem inc_u8 (x : UInt8) : ((x.toNat : Int) + 1) % 256 = ((x + 1).toNat : Int) := by
  rw [UInt8.toNat_add]
  have : (1 : UInt8).toNat = 1 := rfl
  omega
theorem Own.set_at {B : Nat} {w : World} {g n cc : Nat} {bs : List UInt8} (h : Own B w (.slice (some ⟨g, 0, none⟩) n cc) bs) (hn : bs.length = n) (k : Nat) (x : UInt8) :
    Own B (w.setCell ⟨g, k, none⟩ (.int .u8 x.toNat)) (.slice (some ⟨g, 0, none⟩) n cc) (bs.set k x) ∧ w.grownBy (w.setCell ⟨g, k, none⟩ (.int .u8 x.toNat)) (some g) := by
  subst hn
  exact h.set k x
theorem Own.cell_at {B : Nat} {w : World} {g n cc : Nat} {bs : List UInt8} (h : Own B w (.slice (some ⟨g, 0, none⟩) n cc) bs) (hn : bs.length = n) {k : Nat} (hk : k < bs.length) : w.cell? ⟨g, k, none⟩ = some (.int .u8 bs[k].toNat) := by
  subst hn
  exact h.cell hk
theorem Own.frozen_at {B : Nat} {w : World} {g n cc : Nat} {bs : List UInt8} (h : Own B w (.slice (some ⟨g, 0, none⟩) n cc) bs) (hn : bs.length = n) (k : Nat) : w.frozen? ⟨g, k, none⟩ = false := by
  subst hn
  exact h.frozen k
theorem Own.addr {B : Nat} {w : World} {A : Option Addr} {n c : Nat} {bs : List UInt8} (h : Own B w (.slice A n c) bs) {j : Nat} (hj : (Value.slice A n c).ownBlock = some j) : A = some ⟨j, 0, none⟩ := by
  rcases h.2 with ⟨e, _⟩ | ⟨g, cap, cur, e, _⟩
  · rw [e] at hj
    cases hj
  · rw [e] at hj
    simp only [Value.ownBlock, Option.some.injEq] at hj
    subst hj
    simp only [Value.slice.injEq] at e
    exact e.1
theorem Blk.rgrown_id {B' m k' g : Nat} {w w' : World} {r : Option Nat} {fs' : List UInt8} {ls' : List ByteArray} {cs : Array Value} (h : Blk w g 38 cs) (h' : RNetAt B' w m r fs' ls' k') (hg : w.grownBy w' (some m)) : Blk w' g 38 cs := by
  obtain ⟨fv', A, c, h1, h2, h3, h4⟩ := h'
  exact h.grown hg (fun e => h.ne h1 rne.2.2.2.2.1 (Option.some.inj e))
set_option maxRecDepth 50000 in
/-- New, the fates being the net's own row. -/
theorem netNew_own (A : Option Addr) (n c : Nat) (fs : List UInt8) (w : World) (h : Cells w A (bv fs)) (hn : fs.length = n) (hc : n ≤ c) (hl : n ≤ 140737488351232) :
    Calls Try.prog 12 #[.slice A n c] w fun e w' => ∃ g v, e = .returned (.pointer (some ⟨g, 0, none⟩)) ∧ w.heap.size ≤ g ∧ Blk w' g 54 #[v, .slice none 0 0, .int .i64 0] ∧ Own w.heap.size w' v fs ∧ Ext w w' := by
  go_enter Try.func12, Try.ntmps12
  go_wp2_with (at_builtin; refine wpList_append_u8 _ rfl (.const (.slice none 0 0)) (.tmp 3) rfl w.heap.size _ [] rfl (Own.nil _ _) A n c fs rfl hn h (by simp; omega) (Nat.le_refl _) ?_; intro v1 w1 hown hg _; have hx := (Own.nil w.heap.size w).grows (Ext.refl _) hg; rw [List.nil_append] at hown; have hF := hown; obtain ⟨A1, c1, hv1, _⟩ := hown.form; subst hv1; rw [hn] at hF ⊢; clear hg)
  go_ret
  exact ⟨_, _, rfl, hx.size, Blk.new w1 _ _, hF.ext ((Ext.refl _).alloc _), hx.alloc _⟩

set_option maxRecDepth 50000 in
set_option maxHeartbeats 8000000 in
theorem netKeeps_calls (A : Option Addr) (n c : Nat) (fs : List UInt8) (data : ByteArray) (w : World)
    (h1 : Cells w A (bv fs)) (hn1 : fs.length = n) (hc1 : n ≤ c) (hl1 : n ≤ 140737488351232) :
    Calls Try.prog 5 #[.slice A n c, .string data] w fun e w' => e = .returned (.bool true) ∧ Ext w w' := by
  have H1 := Lib.hid h1
  have N1 := Lib.hid hn1
  clear h1 hn1
  have d1 : 1 ≤ 140737488351232 := by decide
  have ID1 : ∀ (n : Nat) (p : Value) (w : World) (Q : Ending → World → Prop), Calls Try.prog 13 #[.pointer (some ⟨n, 0, none⟩), p, .agg (bv (idK 1)).toArray] w Q → Calls Try.prog 13 #[.pointer (some ⟨n, 0, none⟩), p, .agg #[.int .u8 1, .int .u8 0, .int .u8 0, .int .u8 0, .int .u8 0, .int .u8 0, .int .u8 0, .int .u8 0, .int .u8 0, .int .u8 0, .int .u8 0, .int .u8 0, .int .u8 0, .int .u8 0, .int .u8 0, .int .u8 0, .int .u8 0, .int .u8 0, .int .u8 0, .int .u8 0, .int .u8 0, .int .u8 0, .int .u8 0, .int .u8 0, .int .u8 0, .int .u8 0, .int .u8 0, .int .u8 0, .int .u8 0, .int .u8 0, .int .u8 0, .int .u8 0, .int .u8 0]] w Q := fun _ _ _ _ h => h
  go_enter Try.func5, Try.ntmps5
  by_cases hb1 : (1024 : Int) < (n : Int)
  · go_wp2_with (go_at_call 8; (with_reducible refine (net_alive w).mono ?_); rintro e w1 ⟨rfl, hx1⟩)
    go_ret
    exact ⟨rfl, hx1⟩
  by_cases hb2 : (4096 : Int) < (data.size : Int)
  · go_wp2_with (go_at_call 8; (with_reducible refine (net_alive w).mono ?_); rintro e w1 ⟨rfl, hx1⟩)
    go_ret
    exact ⟨rfl, hx1⟩
  go_upto_region 9 with (first
    | (go_at_call 8; (with_reducible refine (net_alive w).mono ?_); rintro e w1 ⟨rfl, hx1⟩)
    | (at_builtin; refine wpList_append_u8 _ rfl (.tmp 27) (.tmp 28) rfl w.heap.size (.slice (some ⟨w1.heap.size, 0, none⟩) 0 0) [] rfl (Own.lit [] #[] rfl hx1.size (by simp only [maxLen, List.length_nil]; omega)) A n c fs rfl N1.out (H1.out.ext (hx1.alloc (.cells #[] 5))) (by simp only [List.length_nil]; omega) (hx1.alloc (.cells #[] 5)).size ?_; intro v2 w2 hown hg2 hat2; rw [List.nil_append] at hown; have hx2 : Ext w1 w2 := ((Ext.refl w1).alloc (.cells #[] 5)).grown_ hg2 (fun j e => by cases e; exact Nat.le_refl _); have hx02 := hx1.trans hx2; obtain ⟨A2, c2, hv2, hl2, _, hc2⟩ := hown.form; subst hv2; have hj2 : ∃ j, (Value.slice A2 fs.length c2).ownBlock = some j ∧ w1.heap.size ≤ j := hat2.elim (fun e => ⟨_, e.trans rfl, Nat.le_refl _⟩) (fun e => ⟨_, e, ((Ext.refl w1).alloc (.cells #[] 5)).size⟩); obtain ⟨gm, hj2, hgm⟩ := hj2; obtain rfl := hown.addr hj2; rw [N1.out] at hown hl2 ⊢; have HO2 := Lib.hid hown; have HC2 := Lib.hid hc2; have hgm2 := (HO2.out.lt rfl).2; clear hg2 hown hat2 hc2 hj2)
    | (go_at_call 12; (with_reducible refine (netNew_own (some ⟨gm, 0, none⟩) n c2 fs w2 HC2.out N1.out hl2 hl1).mono ?_); rintro e w3 ⟨na, v3, rfl, hna, hbn3, hof3, hx3⟩; have hx03 := hx02.trans hx3)
    | (at_builtin; refine wpList_append_u8 _ rfl (.tmp 32) (.tmp 33) rfl w3.heap.size (.slice (some ⟨w3.heap.size, 0, none⟩) 0 0) [] rfl (Own.lit [] #[] rfl (Nat.le_refl _) (by simp only [maxLen, List.length_nil]; omega)) A n c fs rfl N1.out (H1.out.ext (hx03.alloc (.cells #[] 5))) (by simp only [List.length_nil]; omega) ((Ext.refl w3).alloc (.cells #[] 5)).size ?_; intro v4 w4 hown hg4 _; rw [List.nil_append] at hown; have hx4 : Ext w3 w4 := ((Ext.refl w3).alloc (.cells #[] 5)).grown_ hg4 (fun j e => by cases e; exact Nat.le_refl _); have hF4 := hown; obtain ⟨A4, c4, hv4, _⟩ := hown.form; subst hv4; rw [N1.out] at hF4 ⊢; clear hg4 hown))
  obtain ⟨w5, hw5⟩ : ∃ w5, w5 = w4.alloc (.cells #[.slice A4 n c4, .slice none 0 0, .int .i64 0] 35) := ⟨_, rfl⟩
  rw [← hw5]
  have hx5 : Ext w4 w5 := by rw [hw5]; exact (Ext.refl _).alloc _
  have hm5 : Blk w5 w4.heap.size 35 #[.slice A4 n c4, .slice none 0 0, .int .i64 0] := by rw [hw5]; exact Blk.new w4 _ _
  obtain ⟨m, hm⟩ : ∃ m, m = w4.heap.size := ⟨_, rfl⟩
  rw [← hm] at hm5 ⊢
  have hx35 := hx4.trans hx5
  have hx05 := hx03.trans hx35
  have hM0 : w.heap.size ≤ m := by rw [hm]; exact (hx03.trans hx4).size
  have hA0 : w.heap.size ≤ na := Nat.le_trans hx02.size hna
  have hgm0 : w.heap.size ≤ gm := Nat.le_trans hx1.size hgm
  have HBN := Lib.hid (hbn3.ext hx35)
  have HFN := Lib.hid (hof3.ext hx35)
  have HBM := Lib.hid hm5
  have HFM := Lib.hid (hF4.ext hx5)
  have HO5 := Lib.hid (HO2.out.ext (hx3.trans hx35))
  have hgm3 : gm < w3.heap.size := Nat.lt_of_lt_of_le hgm2 hx3.size
  have hngm : na ≠ gm := by omega
  have hmgm : m ≠ gm := by have := hx4.size; omega
  clear hw5 hbn3 hof3 hm5 hF4 hm HO2 HC2
  go_loopw [39] (fun i wr => ∃ (k : Nat) (bs : List UInt8), k ≤ n ∧ i = .int .i64 k ∧ bs.length = n ∧ w5.grownBy wr (some gm) ∧ Hid (Own w.heap.size wr (.slice (some ⟨gm, 0, none⟩) n c2) bs)) (fun i _ => n - (intOf i).toNat)
  case atStart => exact ⟨0, fs, Nat.zero_le _, rfl, N1.out, World.grownBy.refl _ _, HO5⟩
  case round =>
    clear HO5
    obtain ⟨k, bs, hk, rfl, hbs, hg, HO⟩ := hrel
    by_cases hlt : k < n
    · have hp0 : (0 : Int) ≤ (k : Int) := by omega
      have hp1 : (k : Int) < (n : Int) := by omega
      have hkb : k < bs.length := by omega
      obtain ⟨x, hxe⟩ : ∃ x : UInt8, x = bs[k] := ⟨_, rfl⟩
      have hcell := HO.out.cell_at hbs hkb
      rw [← hxe] at hcell
      have hfr := HO.out.frozen_at hbs k
      have hnew := HO.out.set_at hbs k (x + 1)
      have HNEW := Lib.hid hnew
      have hxr : x.toNat < 256 := UInt8.toNat_lt x
      clear hnew hxe
      go_upto_region 12 with (fail)
      rw [inc_u8 x]
      go_wp2
      go_roundw
      case rel => exact ⟨k + 1, bs.set k (x + 1), by omega, by go_num, by rw [List.length_set]; exact hbs, hg.trans HNEW.out.2, Lib.hid HNEW.out.1⟩
      case measure => simp [intOf]; omega
    · obtain rfl : n = k := by omega
      have hxw : Ext w wr := hx05.grown_ hg (fun j e => by cases e; exact hgm0)
      have hAr : NetAt w.heap.size wr na none fs [] 0 := ⟨_, _, HBN.out.grown hg (fun e => hngm (Option.some.inj e)), Fates.of_own (HFN.out.past hg (fun j e => by cases e; exact hgm2)), QRow.nil _ _⟩
      have hMr : RNetAt w.heap.size wr m none fs [] 0 := ⟨_, none, 0, HBM.out.grown hg (fun e => hmgm (Option.some.inj e)), Fates.of_own (HFM.out.past hg (fun j e => by cases e; exact hgm3)), World.ownsRow_nil wr _ _ 1, rfl⟩
      have hA := Lib.hid hAr
      have hM := Lib.hid hMr
      clear hAr hMr HBN HFN HBM HFM HO hg
      go_upto_region 16 with (first
        | (refine wpList_store_blk rfl 38 (.tmp 9) (.tmp 49) rfl rfl wr.heap.size (bv (idK 1)).toArray rfl rfl _ _ (Blk.new wr _ _) rfl (by kernel_rfl) (bv_cells (idK 1)) ?_; intro w6 hb6 hg6; have hx6 : Ext wr w6 := ((Ext.refl _).alloc _).grown_ hg6 (by simp); have hxw6 := hxw.trans hx6)
        | (go_at_call 10; (with_reducible refine (newPool_calls w6).mono ?_); rintro e w7 ⟨gp, bp, rfl, hgp, hbp, hP7, hx7⟩; have hxw7 := hxw6.trans hx7))
      obtain ⟨gi, hgi⟩ : ∃ gi, gi = wr.heap.size := ⟨_, rfl⟩
      rw [← hgi] at hb6 ⊢
      have HI7 := Lib.hid (hb6.ext hx7)
      have hA7 := Lib.hid (hA.out.ext (hx6.trans hx7))
      have hM7 := Lib.hid (hM.out.ext (hx6.trans hx7))
      have HP7 := Lib.hid hP7
      have hbp0 : w.heap.size ≤ bp := Nat.le_trans hxw6.size hbp
      have hone : ∀ (s : ByteArray), ∀ p ∈ [((idK 1, s) : Ent1)], p.1.length = 33 := fun s p hp => by rw [List.mem_singleton] at hp; subst hp; rfl
      clear hb6 hg6 hgi hA hM hP7
      go_loopw [53] (fun i wr' => ∃ (k : Nat) (fs' : List UInt8) (ls : List ByteArray) (qa rm : Option Nat) (L : List Ent1), k ≤ n ∧ i = .int .i64 k ∧ ls.length ≤ k ∧ Apart qa rm ∧ Ext w wr' ∧ Hid (NetAt w.heap.size wr' na qa fs' ls k) ∧ Hid (RNetAt w.heap.size wr' m rm fs' ls k) ∧ Hid (PoolAt wr' gp bp L) ∧ Hid (Blk wr' gi 38 (bv (idK 1)).toArray)) (fun i _ => n - (intOf i).toNat)
      case atStart => exact ⟨0, fs, [], none, none, [], Nat.zero_le _, rfl, Nat.le_refl _, (fun j hj => by cases hj), hxw7, hA7, hM7, HP7, HI7⟩
      case round =>
        clear hA7 hM7 HP7 HI7
        obtain ⟨k, fs', ls, qa, rm, L, hk, rfl, hls, hap, hx, hA, hM, hP, hI⟩ := hrel
        by_cases hlt : k < n
        · obtain ⟨b, hb⟩ : ∃ b : UInt8, b = UInt8.ofNat k := ⟨_, rfl⟩
          have hkb : (k : Int) % 256 = (b.toNat : Int) := by rw [hb, UInt8.toNat_ofNat']; omega
          have hcv : (convert 22 9 (.slice (some ⟨wr.heap.size, 0, none⟩) 1 1)).run Try.prog (wr.alloc (.cells #[.int .u8 ((k : Int) % 256)] 5)) = .ok (.string (bstr [b])) (wr.alloc (.cells #[.int .u8 ((k : Int) % 256)] 5)) := by
            rw [hkb]
            exact conv_str (P := Try.prog) (bs := [b]) Try.underlying22 Try.underlying5 Try.underlying9 rfl (Blk.new wr 5 #[.int .u8 b.toNat]).cells
          have hno : ¬ (9223372036854775807 < data.size + (bstr [b]).size) := by rw [bstr_size]; simp only [List.length_cons, List.length_nil]; omega
          clear hkb hb
          go_upto_region 19 with (fail)
          obtain ⟨w8, hw8⟩ : ∃ w8, w8 = wr.alloc (.cells #[.int .u8 ((k : Int) % 256)] 5) := ⟨_, rfl⟩
          rw [← hw8]
          have hx8 : Ext wr w8 := by rw [hw8]; exact (Ext.refl _).alloc _
          obtain ⟨s, hs⟩ : ∃ s, s = data ++ bstr [b] := ⟨_, rfl⟩
          rw [← hs]
          have hssz : s.size ≤ 140737488351232 := by rw [hs, ByteArray.size_append, bstr_size]; simp only [List.length_cons, List.length_nil]; omega
          have hxw8 := hx.trans hx8
          have hA8 := Lib.hid (hA.out.ext hx8)
          have hM8 := Lib.hid (hM.out.ext hx8)
          have hP8 := Lib.hid (hP.out.ext hx8)
          have hI8 := Lib.hid (hI.out.ext hx8)
          have HC8 := Lib.hid (show ∀ (j : Nat) (v : Value), ([.int .u8 1, .int .u8 0, .int .u8 0, .int .u8 0, .int .u8 0, .int .u8 0, .int .u8 0, .int .u8 0, .int .u8 0, .int .u8 0, .int .u8 0, .int .u8 0, .int .u8 0, .int .u8 0, .int .u8 0, .int .u8 0, .int .u8 0, .int .u8 0, .int .u8 0, .int .u8 0, .int .u8 0, .int .u8 0, .int .u8 0, .int .u8 0, .int .u8 0, .int .u8 0, .int .u8 0, .int .u8 0, .int .u8 0, .int .u8 0, .int .u8 0, .int .u8 0, .int .u8 0] : List Value)[j]? = some v → w8.cell? ((⟨gi, 0, none⟩ : Addr).add j) = some v from id_cells hI8.out)
          clear hw8 hs hno hcv hA hM hP hI hx
          obtain ⟨fs2, ls2, r, hR⟩ : ∃ fs2 ls2 r, askP fs' ls (some s) = (fs2, ls2, r) := ⟨_, _, _, rfl⟩
          have hlen2 : ls2.length ≤ k + 1 := by
            have := askP_len fs' ls (some s)
            rw [hR] at this
            have h' : ls2.length ≤ ls.length + 1 := this
            omega
          obtain ⟨L', hL'⟩ : ∃ L', L' = putAll [(idK 1, s)] L := ⟨_, rfl⟩
          have hat : at1 (idK 1) L' = some s := by
            rw [hL']
            show at1 (idK 1) (put1 (idK 1) s L) = some s
            rw [at1_put, if_pos (beq_self_eq_true _)]
          obtain ⟨S, hS⟩ : ∃ S, S = r.getD ByteArray.empty := ⟨_, rfl⟩
          obtain ⟨T, hT⟩ : ∃ T, T = r.isSome := ⟨_, rfl⟩
          have hk6 : k < 1000000 := by omega
          have hl6 : ls.length ≤ 100000 := by omega
          have HRA := Lib.hid (show askP fs' ls (at1 (idK 1) L') = (fs2, ls2, r) from by rw [hat]; exact hR)
          have HRM := Lib.hid hR
          have HS := Lib.hid hS
          have HT := Lib.hid hT
          have HL := Lib.hid hL'
          have HSS := Lib.hid (show ∀ s', some s = some s' → s'.size ≤ 140737488351232 from fun s' e => by cases e; exact hssz)
          clear hR hS hT hL' hat hssz
          go_upto_region 20 with (first
            | (refine wpList_load_row_ rfl 38 (.tmp 9) rfl ⟨gi, 0, none⟩ rfl ([.int .u8 1, .int .u8 0, .int .u8 0, .int .u8 0, .int .u8 0, .int .u8 0, .int .u8 0, .int .u8 0, .int .u8 0, .int .u8 0, .int .u8 0, .int .u8 0, .int .u8 0, .int .u8 0, .int .u8 0, .int .u8 0, .int .u8 0, .int .u8 0, .int .u8 0, .int .u8 0, .int .u8 0, .int .u8 0, .int .u8 0, .int .u8 0, .int .u8 0, .int .u8 0, .int .u8 0, .int .u8 0, .int .u8 0, .int .u8 0, .int .u8 0, .int .u8 0, .int .u8 0] : List Value) _ HC8.out Try.underlying38 rfl (by rw [id_info]; rfl) ?_)
            | (go_at_call 11; have hrow := row_one (o := (idK 1, s)) (show Blk (w8.alloc (.cells #[.int .u8 1, .int .u8 0, .int .u8 0, .int .u8 0, .int .u8 0, .int .u8 0, .int .u8 0, .int .u8 0, .int .u8 0, .int .u8 0, .int .u8 0, .int .u8 0, .int .u8 0, .int .u8 0, .int .u8 0, .int .u8 0, .int .u8 0, .int .u8 0, .int .u8 0, .int .u8 0, .int .u8 0, .int .u8 0, .int .u8 0, .int .u8 0, .int .u8 0, .int .u8 0, .int .u8 0, .int .u8 0, .int .u8 0, .int .u8 0, .int .u8 0, .int .u8 0, .int .u8 0, .string s] 46)) _ _ (obC (idK 1, s)).toArray from Blk.new w8 _ _) rfl; have hx8a := (Ext.refl w8).alloc (.cells #[.int .u8 1, .int .u8 0, .int .u8 0, .int .u8 0, .int .u8 0, .int .u8 0, .int .u8 0, .int .u8 0, .int .u8 0, .int .u8 0, .int .u8 0, .int .u8 0, .int .u8 0, .int .u8 0, .int .u8 0, .int .u8 0, .int .u8 0, .int .u8 0, .int .u8 0, .int .u8 0, .int .u8 0, .int .u8 0, .int .u8 0, .int .u8 0, .int .u8 0, .int .u8 0, .int .u8 0, .int .u8 0, .int .u8 0, .int .u8 0, .int .u8 0, .int .u8 0, .int .u8 0, .string s] 46); (with_reducible refine (put_calls gp bp L [(idK 1, s)] (some ⟨w8.heap.size, 0, none⟩) 1 1 _ (hP8.out.ext hx8a) hrow rfl d1 (hone s)).mono ?_); rintro e w9 ⟨rfl, hP9, hg9⟩; have hxw9 : Ext w w9 := (hxw8.trans hx8a).grown_ hg9 (fun j e => by cases e; exact hbp0); have hmp := (hP8.out.ext hx8a).map; have hA9 := Lib.hid ((hA8.out.ext hx8a).put hmp hg9); have hM9 := Lib.hid ((hM8.out.ext hx8a).put hmp hg9); have hI9 := Lib.hid ((hI8.out.ext hx8a).grown hg9 (fun e => hmp.ne_blk (hI8.out.ext hx8a) (Option.some.inj e))); rw [← HL.out] at hP9; have hP9 := Lib.hid hP9; have HC9 := Lib.hid (show ∀ (j : Nat) (v : Value), ([.int .u8 1, .int .u8 0, .int .u8 0, .int .u8 0, .int .u8 0, .int .u8 0, .int .u8 0, .int .u8 0, .int .u8 0, .int .u8 0, .int .u8 0, .int .u8 0, .int .u8 0, .int .u8 0, .int .u8 0, .int .u8 0, .int .u8 0, .int .u8 0, .int .u8 0, .int .u8 0, .int .u8 0, .int .u8 0, .int .u8 0, .int .u8 0, .int .u8 0, .int .u8 0, .int .u8 0, .int .u8 0, .int .u8 0, .int .u8 0, .int .u8 0, .int .u8 0, .int .u8 0] : List Value)[j]? = some v → w9.cell? ((⟨gi, 0, none⟩ : Addr).add j) = some v from id_cells hI9.out); clear hg9 hmp hrow))
          go_wp2_with (first
            | (refine wpList_load_row_ rfl 38 (.tmp 9) rfl ⟨gi, 0, none⟩ rfl ([.int .u8 1, .int .u8 0, .int .u8 0, .int .u8 0, .int .u8 0, .int .u8 0, .int .u8 0, .int .u8 0, .int .u8 0, .int .u8 0, .int .u8 0, .int .u8 0, .int .u8 0, .int .u8 0, .int .u8 0, .int .u8 0, .int .u8 0, .int .u8 0, .int .u8 0, .int .u8 0, .int .u8 0, .int .u8 0, .int .u8 0, .int .u8 0, .int .u8 0, .int .u8 0, .int .u8 0, .int .u8 0, .int .u8 0, .int .u8 0, .int .u8 0, .int .u8 0, .int .u8 0] : List Value) _ HC9.out Try.underlying38 rfl (by rw [id_info]; rfl) ?_)
            | (go_at_call 13; have hask := ID1 _ _ _ _ (ask_told hA9.out hk6 hxw9.size hl6 hP9.out (idK_len 1) HRA.out HS.out HT.out); (with_reducible refine hask.mono ?_); rintro e w10 ⟨qa', rfl, hA10, ht10, hqa⟩; have hxw10 := ht10.ext hxw9 hA0 hA9.out.ge; have hI10 := Lib.hid (idblk_two hI9.out hA9.out ht10); have hA10 := Lib.hid hA10; have hP10 := Lib.hid (hP9.out.two hA9.out ht10); have hM10 := Lib.hid (hM9.out.two hA9.out ht10 hap.symm); have hap10 := hap.freshL hM9.out.lt.2 hqa; clear ht10)
            | (go_at_call 15; (with_reducible refine (rask_told hM10.out hk6 hxw10.size hl6 HSS.out (rfl : s = (some s).getD ByteArray.empty) (rfl : true = (some s).isSome) HRM.out HS.out HT.out).mono ?_); rintro e w11 ⟨rm', rfl, hM11, hg11, hrm⟩; have hxw11 := hxw10.grown_ hg11 (fun j e => by cases e; exact hM0); have hA11 := Lib.hid (hA10.out.rgrown hM10.out hg11); have hP11 := Lib.hid (hP10.out.rgrown hM10.out hg11); have hI11 := Lib.hid (hI10.out.rgrown_id hM10.out hg11); have hM11 := Lib.hid hM11; have hap11 := (hap10.symm.freshL hA10.out.lt.2 hrm).symm; clear hg11))
          go_roundw
          case rel => exact ⟨k + 1, fs2, ls2, qa', rm', L', by omega, by go_num, hlen2, hap11, hxw11, hA11, hM11, hP11, hI11⟩
          case measure => simp [intOf]; omega
        · obtain rfl : n = k := by omega
          go_wp2
          go_ret
          exact ⟨rfl, hx⟩
end Go.Proofs.Ythleaofgodkehaa
