/- The walks of the reference's Text and Of, and of ident.Of. -/
import Derived.Test.YtcnhbodemabbdaaDoorQ17
import Derived.Test.YtcnhbodemabbdaaDoorQ21
import Derived.Test.YtcnhbodemabbdaaDoorQ23
import Derived.Lib.ConvBytes
import Derived.Test.YtcnhbodemabbdaaDoorQ16
import Derived.Test.YtcnhbodemabbdaaDoorQ12
import Derived.Test.YtcnhbodemabbdaaDoorQ13
import Derived.Great.BuildSlice
namespace Go.Proofs.YtcnhbodemabbdaaDoor
open Go.RowKit
set_option linter.unusedVariables false

/-- []byte(s): new memory. -/
theorem conv_bytes (bs : List UInt8) (w : World) : ∃ c w', (convert 9 87 (.string (bstr bs))).run Tryd.prog w = .ok (.slice (some ⟨w.heap.size, 0, none⟩) bs.length c) w' ∧ Cells w' (some ⟨w.heap.size, 0, none⟩) (bv bs) ∧ Ext w w' ∧ w'.heap.size = w.heap.size + 1 := by
  refine ⟨grownCap w bs.length 0 5, Lib.bytesWorld w 5 (bstr bs), ?_, ?_, ?_, Lib.bytesWorld_size w 5 (bstr bs)⟩
  · have h := Lib.run_convert_string_bytes (P := Tryd.prog) w 9 87 5 (bstr bs) Tryd.underlying9 Tryd.underlying87 Tryd.underlying5
    rw [bstr_size] at h
    exact h
  · intro j v hv
    have hj : j < bs.length := by
      have := (List.getElem?_eq_some_iff.1 hv).1
      rwa [bv_length] at this
    refine ⟨_, rfl, ?_⟩
    rw [add_new, Lib.bytesWorld_cell w 5 (bstr bs) j (by rw [bstr_size]; exact hj), bstr_data]
    rw [bv_get hj] at hv
    rw [← hv, List.getD_eq_getElem?_getD, List.getElem?_eq_getElem hj]
    rfl
  · refine ⟨?_, ?_, ?_, ?_, fun k hk => Lib.bytesWorld_at_old w 5 (bstr bs) k hk⟩
    · simp [Lib.bytesWorld, World.freeze, World.alloc, World.drew, -World.alloc_eq, -World.drew_eq]
    · simp [Lib.bytesWorld, World.freeze, World.alloc, World.drew, -World.alloc_eq, -World.drew_eq]
    · simp [Lib.bytesWorld, World.freeze, World.alloc, World.drew, -World.alloc_eq, -World.drew_eq]
    · rw [Lib.bytesWorld_size]; omega
theorem dgv_size (bs : List UInt8) : (dgv bs).size = 32 := by rw [dgv, List.size_toArray, bv_length, sha_len]
theorem dgv_cells (bs : List UInt8) : ∀ v ∈ (dgv bs).toList, v.oneCell' = true := by rw [dgv, List.toList_toArray]; exact bv_cells _

set_option maxRecDepth 50000 in
set_option maxHeartbeats 2000000 in
theorem rtext14_calls (k : UInt8) (bs : List UInt8) (w : World) (hl : bs.length ≤ 1048576) : Calls Tryd.prog 68 #[.int .u8 k.toNat, .string (bstr bs)] w fun e w' => e = .returned (.string (bstr (idName k bs))) ∧ Ext w w' := by
  have e1 := u8_eq_one (k := k)
  have e2 := u8_eq_two (k := k)
  have hz := bstr_size bs
  by_cases h1 : k = 1
  · subst h1
    have hsum := fun w' => refSum_bytes (bstr bs) bs (bstr_data bs) w' (by rw [bstr_size]; unfold maxLen; omega)
    have hby := fun w' => refBytes_calls (fnv bs) w'
    have hn : idName 1 bs = 1 :: bytes8 (fnv bs) := rfl
    rw [hn]
    have happ : (⟨#[1]⟩ : ByteArray) ++ bstr (bytes8 (fnv bs)) = bstr (1 :: bytes8 (fnv bs)) := bstr_append [1] _
    have hz2 : (bstr (bytes8 (fnv bs))).size = 8 := by rw [bstr_size]; rfl
    go_enter Tryd.func68, Tryd.ntmps68
    go_wp2_with (first
      | (go_at_call 95; ((with_reducible refine (hsum _).mono ?_); rintro e w1 ⟨rfl, rfl⟩))
      | (go_at_call 94; ((with_reducible refine (hby _).mono ?_); rintro e w2 ⟨rfl, hx2⟩)))
    go_ret
    exact ⟨rfl, hx2⟩
  rw [decide_eq_false h1] at e1
  by_cases h2 : k = 2
  · subst h2
    have hn : idName 2 bs = 2 :: sha bs := rfl
    rw [hn]
    obtain ⟨c, wB, hcv, hcB, hxB, hszB⟩ := conv_bytes bs w
    obtain ⟨n, hnl⟩ : ∃ n, bs.length = n := ⟨_, rfl⟩
    rw [hnl] at hcv
    have hof := fun w' h => refOf_calls (some ⟨w.heap.size, 0, none⟩) n c bs w' h hnl (by omega)
    have happ : (⟨#[2]⟩ : ByteArray) ++ bstr (sha bs) = bstr (2 :: sha bs) := bstr_append [2] _
    have hz2 : (bstr (sha bs)).size = 32 := by rw [bstr_size, sha_len]
    clear hnl
    go_enter Tryd.func68, Tryd.ntmps68
    go_wp2_with (first
      | (go_at_call 96; ((with_reducible refine (hof _ hcB).mono ?_); rintro e w2 ⟨rfl, hx2⟩))
      | (refine wpList_store_blk rfl 25 (.tmp 5) (.tmp 16) rfl rfl w2.heap.size (dgv bs) rfl rfl _ _ (Blk.new_at rfl _ _) (dgv_size _) (by kernel_rfl) (dgv_cells _) ?_; intro w4 hb4 hg4; have hx4 : Ext w2 w4 := ((Ext.refl _).alloc _).grown_ hg4 (by simp); have hc4 := Blk.cells hb4; rw [dgv, List.toList_toArray] at hc4; have hcv4 := conv_str (P := Tryd.prog) Tryd.underlying87 Tryd.underlying5 Tryd.underlying9 (c := 32) (bs := sha bs) (n := 32) (sha_len _) hc4; have hsa := fun w => slice_all (P := Tryd.prog) 25 5 32 Tryd.underlying25 (by kernel_rfl) w2.heap.size 0 (by decide) w))
    go_ret
    exact ⟨rfl, (hxB.trans hx2).trans hx4⟩
  rw [decide_eq_false h2] at e2
  have hn : idName k bs = [] := by unfold idName; rw [if_neg h1, if_neg h2]
  rw [hn]
  go_enter Tryd.func68, Tryd.ntmps68
  go_wp2
  go_ret
  exact ⟨rfl, Ext.refl _⟩

set_option maxRecDepth 50000 in
set_option maxHeartbeats 2000000 in
theorem rof_calls (k : UInt8) (bs : List UInt8) (w : World) (hl : bs.length ≤ 1048576) : Calls Tryd.prog 43 #[.int .u8 k.toNat, .string (bstr bs)] w fun e w' => e = .returned (idv (idPad (idName k bs))) ∧ Ext w w' := by
  have htx := fun w' => rtext14_calls k bs w' hl
  obtain ⟨T, hT⟩ : ∃ T, T = idName k bs := ⟨_, rfl⟩
  have hTl : T.length ≤ 33 := by rw [hT]; exact idName_len k bs
  rw [← hT] at htx ⊢
  have hid := fun w' => rid_calls T w' hTl
  unfold idv at hid
  unfold idv
  have hpl : (bv (idPad T)).toArray.size = 33 := by rw [List.size_toArray, bv_len, idPad_len hTl]
  clear hT
  go_enter Tryd.func43, Tryd.ntmps43
  go_wp2_with (first
    | (go_at_call 68; ((with_reducible refine (htx _).mono ?_); rintro e w1 ⟨rfl, hx1⟩; have hb1 := (Blk.new w 27 (bv idNone).toArray).ext hx1))
    | (go_at_call 67; ((with_reducible refine (hid _).mono ?_); rintro e w2 ⟨rfl, hx2⟩; have hb2 := hb1.ext hx2))
    | (refine wpList_store_blk rfl 27 (.tmp 4) (.tmp 8) rfl rfl w.heap.size (bv (idPad T)).toArray rfl rfl _ _ hb2 (by rw [hpl]; rfl) (by kernel_rfl) (bv_cells _) ?_; intro w4 hb4 hg4))
  exact bodyPost_ret (results_cell_row (P := Tryd.prog) (fn := Tryd.f43) rfl _ _ _ _ (bv (idPad T)).toArray _ _ rfl hb4 Tryd.underlying27 rfl (by rw [hpl]; kernel_rfl)) rfl ⟨rfl, ((((Ext.refl _).alloc _).trans hx1).trans hx2).grown_ hg4 (by simp)⟩

/-- A part of a row, stored. -/
theorem run_store_seg {P : Program} {w : World} {g : Nat} {t ty : TypeId} {cs : Array Value} (h : Blk w g t cs) (o : Nat) {vs : Array Value} (hfit : o + vs.size ≤ cs.size) (hi : (P.info? ty).map (·.size) = some vs.size) (h1 : ∀ v ∈ vs.toList, v.oneCell' = true) :
    (Instr.storeAt ty (.pointer (some ⟨g, o, none⟩)) (.agg vs)).run P w = .ok () (w.setRow g (cs.toList.take o ++ vs.toList ++ cs.toList.drop (o + vs.size)).toArray) := by
  have hst := run_storeCells_at P g o t vs.toList 0 cs w h (by simpa using hfit) h1
  cases hq : P.info? ty with
  | none => simp [hq] at hi
  | some i =>
    have hsz : i.size = vs.size := by simpa [hq] using hi
    simp only [Nat.add_zero, Array.length_toList] at hst
    simp [Instr.storeAt, Instr.sureAddr, storeVar, Value.cells, sizeOf, typeInfo, hq, hsz, hst]
theorem wpList_store_seg {P : Program} {ops : Array Oper} {rest : List Oper} {o : Oper} {a : Act} {w : World} {Q : Exit → Act → World → Prop} (hgd : o.guard = none) (ty : TypeId) (x y : Operand) (ho : o.op = .store ty x y) (hod : o.dst = none) (g off : Nat) (vs : Array Value)
    (hx : a.eval x = .pointer (some ⟨g, off, none⟩)) (hy : a.eval y = .agg vs) (t : TypeId) (cs : Array Value) (h : Blk w g t cs) (hfit : off + vs.size ≤ cs.size) (hi : (P.info? ty).map (·.size) = some vs.size) (h1 : ∀ v ∈ vs.toList, v.oneCell' = true)
    (hk : ∀ w', Blk w' g t (cs.toList.take off ++ vs.toList ++ cs.toList.drop (off + vs.size)).toArray → w.grownBy w' (some g) → wpList P ops Q rest a w') : wpList P ops Q (o :: rest) a w := by
  refine wpList_plain hgd fun _ hK => ?_
  unfold Oper.wp execOp
  simp only [ho, hx, hy, Sem.run_bind, run_store_seg h off hfit hi h1, Result.andThen_ok, Sem.run_pure]
  have := hK _ _ (hk _ (h.row _) ⟨rfl, rfl, rfl, by simp, fun k _ hne => setRow_other w g k _ (fun e => hne (by rw [e]))⟩)
  simpa [Oper.upon, hod, Act.put] using this
theorem BSs.one {w : World} {a : Option Addr} {v : Value} {xs : List UInt8} (h : Cells w a [v]) (hv : BS w v xs) : BSs w a [xs] := by
  intro i bs hi
  match i with
  | 0 =>
    simp at hi; subst hi
    obtain ⟨x, e, hc⟩ := h 0 v rfl
    exact ⟨x, v, e, hc, hv⟩
  | n + 1 => simp at hi

theorem seg_two (bs : List UInt8) : ((bv (idNew 2)).toArray.toList.take 1 ++ (bv (sha bs)).toArray.toList ++ (bv (idNew 2)).toArray.toList.drop (1 + (bv (sha bs)).toArray.size)).toArray = (bv ((idNew 2).take 1 ++ sha bs)).toArray := by
  rw [List.toList_toArray, List.toList_toArray, List.size_toArray, bv_len, sha_len, List.drop_of_length_le (by rw [bv_len]; decide), List.append_nil, bv_take, bv_cat]

set_option maxRecDepth 50000 in
set_option maxHeartbeats 4000000 in
theorem idof_calls (k : UInt8) (A : Option Addr) (n c : Nat) (bs : List UInt8) (w : World) (hb : Cells w A (bv bs)) (hn : bs.length = n) (hc : n ≤ c) (hl : n ≤ 1048576) (hT : Tab w) :
    Calls Tryd.prog 40 #[.int .u8 k.toNat, .slice A n c] w fun e w' => e = .returned (idv (idPad (idName k bs))) ∧ Ext w w' := by
  have e1 := u8_eq_one (k := k)
  have e2 := u8_eq_two (k := k)
  unfold idv
  have hpl : (bv (idPad (idName k bs))).toArray.size = 33 := by rw [List.size_toArray, bv_len, idPad_len (idName_len k bs)]
  by_cases h1 : k = 1
  · subst h1
    have hpad : idPad (idName 1 bs) = (idNew 1).take 1 ++ bytes8 (fnv bs) ++ (idNew 1).drop 9 := rfl
    rw [hpad] at hpl ⊢
    obtain ⟨B, hB⟩ : ∃ B, B = (idNew 1).take 1 ++ bytes8 (fnv bs) ++ (idNew 1).drop 9 := ⟨_, rfl⟩
    rw [← hB] at hpl ⊢
    have HB := Lib.hid hB
    clear hB hpad
    go_enter Tryd.func40, Tryd.ntmps40
    go_wp2_with (first
      | (refine wpList_store_blk rfl 27 (.tmp 5) (.tmp 8) rfl rfl (w.heap.size + 1) (bv (idNew 1)).toArray rfl rfl _ _ (Blk.new_at (by simp) _ _) rfl (by kernel_rfl) (bv_cells _) ?_; intro w1 hb1 hg1; have hb0 := ((Blk.new w 27 (bv idNone).toArray).alloc _).grown hg1 (by simp); have hx1 : Ext w w1 := (((Ext.refl _).alloc _).alloc _).grown_ hg1 (by simp))
      | (go_at_call 57; ((with_reducible refine (sum_one_calls _ A n c 1 bs _ ?h1 hc ((hb.ext hx1).ext ((Ext.refl _).alloc _)) hn (by unfold maxLen; omega)).mono ?_); (case h1 => (go_simp; done)); rintro e w2 ⟨rfl, rfl⟩))
      | (go_at_call 56; ((with_reducible refine (fnvBytes_calls (fnv bs) _).mono ?_); rintro e w3 ⟨rfl, hx3⟩; have hx13 := (hx1.alloc _).trans hx3; have hb13 := (hb1.alloc _).ext hx3; have hb03 := (hb0.alloc _).ext hx3))
      | (refine wpList_store_blk rfl 116 (.tmp 6) (.tmp 16) rfl rfl w3.heap.size (arr8 (fnv bs) 8) rfl rfl _ _ (Blk.new_at rfl _ _) (arr8_size _ _) (by kernel_rfl) (by rw [arr8_all]; exact bv_cells _) ?_; intro w4 hb4 hg4; have hx4 : Ext w3 w4 := ((Ext.refl _).alloc _).grown_ hg4 (by simp); have hb14 := hb13.ext hx4; have hb04 := hb03.ext hx4; have hx14 := hx13.trans hx4))
    obtain ⟨g, hgw⟩ : ∃ g, g = w.heap.size + 1 := ⟨_, rfl⟩
    obtain ⟨g6, hg6w⟩ : ∃ g6, g6 = w3.heap.size := ⟨_, rfl⟩
    have hg0 : w.heap.size ≠ g := by omega
    have hgl : w.heap.size ≤ g := by omega
    rw [← hgw] at hb14 ⊢
    rw [← hg6w] at hb4 ⊢
    clear hgw hg1 hg6w hg4 hb13 hb03 hb1 hb0
    have hc8 : ∀ u, Blk u g6 116 (arr8 (fnv bs) 8) → Cells u (some ⟨g6, 0, none⟩) (bv (bytes8 (fnv bs))) := fun u hu => by
      have := Blk.cells hu
      rwa [arr8_all] at this
    refine wp_region_ops (CInv [17, 18, 19, 20] _
      [(0, 17, .pointer (some ⟨g, 1, none⟩)), (1, 18, .slice (some ⟨g, 1, none⟩) 32 32), (2, 19, .slice (some ⟨g6, 0, none⟩) 8 8)]
      [(3, some 20)] (fun xs u => (xs = [] ∧ u = w4.drew) ∨ (xs ≠ [] ∧ Blk u g 27 (bv B).toArray ∧ w4.drew.grownBy u (some g)))) (by kernel_rfl) (by kernel_rfl) (CInv.start (.inl ⟨rfl, rfl⟩)) ?_ ?_
    · refine ⟨?o0, ?o1, ?o2, ?o3, trivial⟩
      case o0 =>
        intro f a u h hfi hp hq
        have q5 : a.tmps[5]?.getD undef = .pointer (some ⟨g, 0, none⟩) := h.agree.att (by decide)
        exact h.yield rfl rfl 17 rfl (by change 17 < 28; decide) rfl _ rfl (by go_simp)
      case o1 =>
        intro f a u h hfi hp hq
        have q17 := h.att 0 rfl (pre_of hp 0 rfl)
        have hsa := slice_all (P := Tryd.prog) 25 5 32 Tryd.underlying25 (by kernel_rfl) g 1 (by decide) u
        exact h.yield rfl rfl 18 rfl (by change 18 < 28; decide) rfl _ rfl (by go_simp)
      case o2 =>
        intro f a u h hfi hp hq
        have q6 : a.tmps[6]?.getD undef = .pointer (some ⟨g6, 0, none⟩) := h.agree.att (by decide)
        have hsa := slice_all (P := Tryd.prog) 116 5 8 Tryd.underlying116 (by kernel_rfl) g6 0 (by decide) u
        exact h.yield rfl rfl 19 rfl (by change 19 < 28; decide) rfl _ rfl (by go_simp)
      case o3 =>
        intro f a u h hfi hp hq
        have q18 := h.at_ 1 rfl (pre_of hp 1 rfl)
        have q19 := h.at_ 2 rfl (pre_of hp 2 rfl)
        refine h.link hfi rfl rfl 0 _ rfl rfl (fun t ht => by cases ht; change 20 < 28; decide) rfl (fun k c d' hk _ => by omega) ?_
        rintro xs hl hW _
        obtain rfl : xs = [] := List.eq_nil_of_length_eq_zero hl
        rcases hW with ⟨_, rfl⟩ | ⟨hne, _⟩
        · refine wp_copy_buf (.tmp 18) (.tmp 19) rfl 1 32 32 q18 (some ⟨g6, 0, none⟩) 8 8 (bytes8 (fnv bs)) q19 rfl (by decide) (hc8 _ hb4.drew) (B := idNew 1) hb14.drew (by decide) 8 (by decide) fun w' hb' hg' => ⟨_, rfl, .inr ⟨by simp, ?_, hg'⟩⟩
          have e : (idNew 1).take 1 ++ (bytes8 (fnv bs)).take 8 ++ (idNew 1).drop (1 + 8) = B := HB.out.symm
          rw [e] at hb'
          exact hb'
        · exact absurd rfl hne
    · intro f a u h hall hfar
      have hag := h.agree.out
      obtain ⟨xs, hxl, hW, _⟩ := h.done (by intro c hc; simp only [List.mem_singleton] at hc; subst hc; exact hall 3 (by decide))
      rcases hW with ⟨rfl, _⟩ | ⟨_, hbP, hgP⟩
      · cases hxl
      have hb0P := (hb04.drew).grown hgP (fun e => hg0 (Option.some.inj e))
      have hxP : Ext w u := (hx14.drew).grown_ hgP (by intro k hk; cases hk; exact hgl)
      simp only [List.foldl_cons, List.foldl_nil, Act.put, List.setIfInBounds_toArray, List.set_cons_zero, List.set_cons_succ] at hag
      generalize a.eval (.tmp 17) = y17 at hag
      generalize a.eval (.tmp 18) = y18 at hag
      generalize a.eval (.tmp 19) = y19 at hag
      generalize a.eval (.tmp 20) = y20 at hag
      clear h hall hfar hb04 hb14 hb4
      subst hag
      go_wp2_with (first
        | (refine wpList_load_blk rfl 27 (.tmp 5) rfl g rfl _ _ _ hbP Tryd.underlying27 rfl (by rw [hpl]; kernel_rfl) ?_)
        | (refine wpList_store_blk rfl 27 (.tmp 4) (.tmp 27) rfl rfl w.heap.size (bv B).toArray rfl rfl _ _ hb0P (by rw [hpl]; rfl) (by kernel_rfl) (bv_cells _) ?_; intro w5 hb5 hg5))
      exact bodyPost_ret (results_cell_row (P := Tryd.prog) (fn := Tryd.f40) rfl _ _ _ _ (bv B).toArray _ _ rfl hb5 Tryd.underlying27 rfl (by rw [hpl]; kernel_rfl)) rfl ⟨rfl, hxP.grown_ hg5 (by simp)⟩
  rw [decide_eq_false h1] at e1
  by_cases h2 : k = 2
  · subst h2
    have hpad : idPad (idName 2 bs) = (idNew 2).take 1 ++ sha bs := by
      unfold idPad idName
      rw [if_neg (by decide), if_pos rfl, List.length_cons, sha_len]
      rw [show 33 - (32 + 1) = 0 from rfl, List.replicate_zero, List.append_nil]
      rfl
    rw [hpad] at hpl ⊢
    obtain ⟨B, hB⟩ : ∃ B, B = (idNew 2).take 1 ++ sha bs := ⟨_, rfl⟩
    rw [← hB] at hpl ⊢
    have HB := Lib.hid hB
    clear hB hpad
    go_enter Tryd.func40, Tryd.ntmps40
    go_wp2_with (first
      | (refine wpList_store_blk rfl 27 (.tmp 5) (.tmp 8) rfl rfl (w.heap.size + 1) (bv (idNew 2)).toArray rfl rfl _ _ (Blk.new_at (by simp) _ _) rfl (by kernel_rfl) (bv_cells _) ?_; intro w1 hb1 hg1; have hb0 := ((Blk.new w 27 (bv idNone).toArray).alloc _).grown hg1 (by simp); have hx1 : Ext w w1 := (((Ext.refl _).alloc _).alloc _).grown_ hg1 (by simp))
      | (go_at_call 58; ((with_reducible refine (of_calls (some ⟨w1.heap.size, 0, none⟩) 1 1 [bs] _ (BSs.one (Cells.lit rfl [_] _ _) (BS.of hn hc ((hb.ext hx1).ext ((Ext.refl _).alloc _)))) rfl (by decide) (by simpa [hn] using hl) (hT.ext (hx1.alloc _))).mono ?_); rintro e w3 ⟨rfl, hx3⟩; have hx13 := (hx1.alloc _).trans hx3; have hb13 := (hb1.alloc _).ext hx3; have hb03 := (hb0.alloc _).ext hx3))
      | (refine wpList_store_seg rfl 25 (.tmp 26) (.tmp 25) rfl rfl (w.heap.size + 1) 1 _ rfl rfl _ _ hb13 (by rw [List.size_toArray, List.size_toArray, bv_len, bv_len, sha_len]; decide) (by rw [List.size_toArray, bv_len, sha_len]; kernel_rfl) (by rw [List.toList_toArray]; exact bv_cells _) ?_; intro w4 hb4 hg4; rw [seg_two, ← HB.out] at hb4; have hb04 := hb03.grown hg4 (by simp); have hx4 : Ext w w4 := hx13.grown_ hg4 (by intro k hk; cases hk; omega))
      | (refine wpList_load_blk rfl 27 (.tmp 5) rfl (w.heap.size + 1) rfl _ _ _ hb4 Tryd.underlying27 rfl (by rw [hpl]; kernel_rfl) ?_)
      | (refine wpList_store_blk rfl 27 (.tmp 4) (.tmp 27) rfl rfl w.heap.size (bv B).toArray rfl rfl _ _ hb04 (by rw [hpl]; rfl) (by kernel_rfl) (bv_cells _) ?_; intro w5 hb5 hg5))
    exact bodyPost_ret (results_cell_row (P := Tryd.prog) (fn := Tryd.f40) rfl _ _ _ _ (bv B).toArray _ _ rfl hb5 Tryd.underlying27 rfl (by rw [hpl]; kernel_rfl)) rfl ⟨rfl, hx4.grown_ hg5 (by simp)⟩
  rw [decide_eq_false h2] at e2
  have hn0 : idPad (idName k bs) = idNone := by unfold idName; rw [if_neg h1, if_neg h2]; rfl
  rw [hn0]
  go_enter Tryd.func40, Tryd.ntmps40
  go_wp2_with (first
    | (refine wpList_store_blk rfl 27 (.tmp 5) (.tmp 8) rfl rfl (w.heap.size + 1) (bv (idNew k)).toArray rfl rfl _ _ (Blk.new_at (by simp) _ _) rfl (by kernel_rfl) (bv_cells _) ?_; intro w1 hb1 hg1; have hb0 := ((Blk.new w 27 (bv idNone).toArray).alloc _).grown hg1 (by simp); have hx1 : Ext w w1 := (((Ext.refl _).alloc _).alloc _).grown_ hg1 (by simp))
    | (refine wpList_store_blk rfl 27 (.tmp 4) (.tmp 10) rfl rfl w.heap.size (bv idNone).toArray rfl rfl _ _ hb0 rfl (by kernel_rfl) (bv_cells _) ?_; intro w5 hb5 hg5))
  exact bodyPost_ret (results_cell_row (P := Tryd.prog) (fn := Tryd.f40) rfl _ _ _ _ (bv idNone).toArray _ _ rfl hb5 Tryd.underlying27 rfl (by kernel_rfl)) rfl ⟨rfl, hx1.grown_ hg5 (by simp)⟩
end Go.Proofs.YtcnhbodemabbdaaDoor
/- Names compared; the laws' own function alive. -/
namespace Go.Proofs.YtcnhbodemabbdaaDoor
open Go.RowKit
set_option linter.unusedVariables false

theorem idPad_len33 (k : UInt8) (bs : List UInt8) : (idPad (idName k bs)).length = 33 := idPad_len (idName_len k bs)
theorem idText_of {k : UInt8} (bs : List UInt8) (h : 0 < idN k) : idText (idPad (idName k bs)) = idName k bs := (idCan_pad (idName_can bs h)).2
theorem idGood_of {k : UInt8} (bs : List UInt8) (h : 0 < idN k) : idGood (idPad (idName k bs)) = true := (idCan_pad (idName_can bs h)).1

/-- A struct loaded, under a guard or not. -/
theorem wpList_load_w {P : Program} {ops : Array Oper} {rest : List Oper} {o : Oper} {a : Act} {w : World} {Q : Exit → Act → World → Prop} (ty : TypeId) (x : Operand) (ho : o.op = .load ty x)
    (g : Nat) (hx : a.eval x = .pointer (some ⟨g, 0, none⟩)) (hw : Region.wanted o (yielded ops a.tmps) = true) (t : TypeId) (cs : Array Value) (d : TypeDesc) (h : Blk w g t cs)
    (hu : P.underlying ty = some d) (hd : (match d with | .struct _ | .array _ _ => true | _ => false) = true) (hi : (P.info? ty).map (·.size) = some cs.size)
    (hk : wpList P ops Q rest (a.put o.dst (.agg cs)) w) : wpList P ops Q (o :: rest) a w :=
  wpList_step fun K hK => by
    rw [if_pos hw]
    exact wp_load_row ty x ho g hx t cs (0, 0) d h hu hd hi (hK _ _ hk)
/-- An operation whose guard says no. -/
theorem wpList_skip {P : Program} {ops : Array Oper} {rest : List Oper} {o : Oper} {a : Act} {w : World} {Q : Exit → Act → World → Prop} {g : Nat} {b : Bool} (hgd : o.guard = some (g, b)) (hw : Region.wanted o (yielded ops a.tmps) = false)
    (hk : wpList P ops Q rest (a.put o.dst undef) w) : wpList P ops Q (o :: rest) a w :=
  wpList_step fun K hK => by
    rw [if_neg (by rw [hw]; decide)]
    exact hK _ _ hk
end Go.Proofs.YtcnhbodemabbdaaDoor
/- Trees and commits in memory. -/
namespace Go.Proofs.YtcnhbodemabbdaaDoor
open Go.RowKit
set_option linter.unusedVariables false

def prC (p : Pr) : List Value := [.string p.1, .string p.2]
def kdC (k : Kd) : List Value := .string k.1 :: bv k.2
/-- A tree's parts in memory. -/
structure TrAt (w : World) (t : Tr) (pa ka : Option Addr) (P K pc kc : Nat) : Prop where
  hp : t.pairs.length = P
  hk : t.kids.length = K
  lp : P ≤ pc
  lk : K ≤ kc
  cp : Row w pa 2 (t.pairs.map prC)
  ck : Row w ka 34 (t.kids.map kdC)
  bp : P ≤ 140737488351232
  bk : K ≤ 140737488351232
  sp : ∀ p ∈ t.pairs, p.1.size ≤ 140737488351232 ∧ p.2.size ≤ 140737488351232
  sk : ∀ k ∈ t.kids, k.1.size ≤ 140737488351232 ∧ k.2.length = 33
theorem TrAt.ext {w w' : World} {t : Tr} {pa ka : Option Addr} {P K pc kc : Nat} (h : TrAt w t pa ka P K pc kc) (k : Ext w w') : TrAt w' t pa ka P K pc kc :=
  ⟨h.hp, h.hk, h.lp, h.lk, h.cp.ext k, h.ck.ext k, h.bp, h.bk, h.sp, h.sk⟩
abbrev tra (pa : Option Addr) (P pc : Nat) (ka : Option Addr) (K kc : Nat) : Value := .agg #[.slice pa P pc, .slice ka K kc]
/-- A commit's parts in memory. -/
structure CmAt (w : World) (c : Cm) (qa : Option Addr) (Q qc : Nat) : Prop where
  hr : c.root.length = 33
  hq : c.parents.length = Q
  lq : Q ≤ qc
  cq : Row w qa 33 (c.parents.map bv)
  bq : Q ≤ 140737488351232
  sq : ∀ p ∈ c.parents, p.length = 33
  sn : c.note.size ≤ 140737488351232
  n0 : -9223372036854775808 ≤ c.num
  n1 : c.num ≤ 9223372036854775807
theorem CmAt.ext {w w' : World} {c : Cm} {qa : Option Addr} {Q qc : Nat} (h : CmAt w c qa Q qc) (k : Ext w w') : CmAt w' c qa Q qc :=
  ⟨h.hr, h.hq, h.lq, h.cq.ext k, h.bq, h.sq, h.sn, h.n0, h.n1⟩
def cmC (c : Cm) (qa : Option Addr) (Q qc : Nat) : List Value := bv c.root ++ [.slice qa Q qc, .string c.note, .int .i64 c.num]
abbrev cma (c : Cm) (qa : Option Addr) (Q qc : Nat) : Value := .agg (cmC c qa Q qc).toArray
theorem prC_len (p : Pr) : (prC p).length = 2 := rfl
theorem kdC_len {k : Kd} (h : k.2.length = 33) : (kdC k).length = 34 := by simp [kdC, bv, h]
theorem pr_row {w : World} {a : Option Addr} {ps : List Pr} (h : Row w a 2 (ps.map prC)) {i : Nat} (hi : i < ps.length) :
    ∃ x, a = some x ∧ w.cell? (x.add (i * 2)) = some (.string ps[i].1) ∧ w.cell? ((x.add (i * 2)).add 1) = some (.string ps[i].2) := by
  obtain ⟨x, hx, hc⟩ := h.get (i := i) (by simpa using hi)
  rw [List.getElem_map] at hc
  exact ⟨x, hx, hc 0 _ rfl, hc 1 _ rfl⟩
theorem pr_info : (Tryd.prog.info? 65).map (·.size) = some 2 := by kernel_rfl
theorem kd_info : (Tryd.prog.info? 77).map (·.size) = some 34 := by kernel_rfl
theorem cm_info : (Tryd.prog.info? 42).map (·.size) = some 36 := by kernel_rfl
theorem tr_info : (Tryd.prog.info? 73).map (·.size) = some 2 := by kernel_rfl
theorem prC_one (p : Pr) : ∀ v ∈ prC p, v.oneCell' = true := by
  intro v hv
  simp only [prC, List.mem_cons, List.not_mem_nil, or_false] at hv
  rcases hv with rfl | rfl <;> rfl
theorem kdC_one (k : Kd) : ∀ v ∈ kdC k, v.oneCell' = true := by
  intro v hv
  rcases List.mem_cons.1 hv with rfl | hv
  · rfl
  · exact bv_cells _ v hv
/-- The two cells of a boxed tree. -/
theorem tree_cells {w : World} {g : Nat} {pa ka : Option Addr} {P K pc kc : Nat} (h : Blk w g 73 #[.slice pa P pc, .slice ka K kc]) :
    w.cell? ⟨g, 0, none⟩ = some (.slice pa P pc) ∧ w.cell? ⟨g, 1, none⟩ = some (.slice ka K kc) := ⟨h.cell 0, h.cell 1⟩
theorem pair_cells {w : World} {g : Nat} {p : Pr} (h : Blk w g 65 (prC p).toArray) : w.cell? ⟨g, 0, none⟩ = some (.string p.1) ∧ w.cell? ⟨g, 1, none⟩ = some (.string p.2) := ⟨h.cell 0, h.cell 1⟩

section
variable (w : World) (p : Addr)
theorem f_tree0 : (Instr.fieldAt 73 (.pointer (some p)) 0).run Tryd.prog w = .ok (.pointer (some p)) w := by go_simp
theorem f_tree1 : (Instr.fieldAt 73 (.pointer (some p)) 1).run Tryd.prog w = .ok (.pointer (some (p.add 1))) w := by go_simp
theorem f_kid0 : (Instr.fieldAt 77 (.pointer (some p)) 0).run Tryd.prog w = .ok (.pointer (some p)) w := by go_simp
theorem f_kid1 : (Instr.fieldAt 77 (.pointer (some p)) 1).run Tryd.prog w = .ok (.pointer (some (p.add 1))) w := by go_simp
theorem f_cm0 : (Instr.fieldAt 42 (.pointer (some p)) 0).run Tryd.prog w = .ok (.pointer (some p)) w := by go_simp
theorem f_cm1 : (Instr.fieldAt 42 (.pointer (some p)) 1).run Tryd.prog w = .ok (.pointer (some (p.add 33))) w := by go_simp
theorem f_cm2 : (Instr.fieldAt 42 (.pointer (some p)) 2).run Tryd.prog w = .ok (.pointer (some (p.add 34))) w := by go_simp
theorem f_cm3 : (Instr.fieldAt 42 (.pointer (some p)) 3).run Tryd.prog w = .ok (.pointer (some (p.add 35))) w := by go_simp
variable {w} {p}
theorem ld_str {s : ByteArray} (h : w.cell? p = some (.string s)) : (Instr.loadAt 9 (.pointer (some p))).run Tryd.prog w = .ok (.string s) w := by go_simp
theorem ld_u8 {c : Int} (h : w.cell? p = some (.int .u8 c)) : (Instr.loadAt 5 (.pointer (some p))).run Tryd.prog w = .ok (.int .u8 c) w := by go_simp
theorem ld_int {c : Int} (h : w.cell? p = some (.int .i64 c)) : (Instr.loadAt 3 (.pointer (some p))).run Tryd.prog w = .ok (.int .i64 c) w := by go_simp
theorem ld_kids {a : Option Addr} {n c : Nat} (h : w.cell? p = some (.slice a n c)) : (Instr.loadAt 71 (.pointer (some p))).run Tryd.prog w = .ok (.slice a n c) w := by go_simp
theorem ld_pairs {a : Option Addr} {n c : Nat} (h : w.cell? p = some (.slice a n c)) : (Instr.loadAt 22 (.pointer (some p))).run Tryd.prog w = .ok (.slice a n c) w := by go_simp
theorem ix_kid {a : Addr} {n c i : Nat} {z : Int} (hz : z = (i : Int)) (h : i < n) : (Instr.indexAt 71 (.slice (some a) n c) (.int .i64 z)).run Tryd.prog w = .ok (.pointer (some (a.add (i * 34)))) w := by
  subst hz
  have h1 : (0 : Int) ≤ (i : Int) := by omega
  have h2 : (i : Int) < (n : Int) := by omega
  go_simp
end
theorem kd_row {w : World} {a : Option Addr} {ks : List Kd} (h : Row w a 34 (ks.map kdC)) {i : Nat} (hi : i < ks.length) :
    ∃ x, a = some x ∧ w.cell? (x.add (i * 34)) = some (.string ks[i].1) ∧ Cells w (some ((x.add (i * 34)).add 1)) (bv ks[i].2) ∧ ∀ j v, (kdC ks[i])[j]? = some v → w.cell? ((x.add (i * 34)).add j) = some v := by
  obtain ⟨x, hx, hc⟩ := h.get (i := i) (by simpa using hi)
  rw [List.getElem_map] at hc
  exact ⟨x, hx, hc 0 _ rfl, fun j v hj => ⟨_, rfl, by rw [add_add, Nat.add_comm 1 j]; exact hc (j + 1) v hj⟩, hc⟩
theorem Cells.head {w : World} {p : Addr} {b : List UInt8} (h : Cells w (some p) (bv b)) (hb : 0 < b.length) : w.cell? p = some (.int .u8 (idKind b).toNat) := by
  obtain ⟨x, hx, hc⟩ := h.byte hb
  cases hx
  have e : idKind b = b[0] := by unfold idKind; rw [List.getD_eq_getElem?_getD, List.getElem?_eq_getElem hb]; rfl
  rw [e]
  exact hc
theorem kid_cells {w : World} {g : Nat} {k : Kd} (h : Blk w g 77 (kdC k).toArray) : w.cell? ⟨g, 0, none⟩ = some (.string k.1) ∧ Cells w (some ⟨g, 1, none⟩) (bv k.2) := by
  refine ⟨h.cell 0, fun j v hv => ⟨_, rfl, ?_⟩⟩
  have := h.cell (1 + j)
  have e : (⟨g, 1, none⟩ : Addr).add j = ⟨g, 1 + j, none⟩ := by
    unfold Addr.add
    by_cases hj : j = 0
    · subst hj; rfl
    · rw [if_neg hj]
  rw [e, this, ← Array.getElem?_toList, List.toList_toArray, Nat.add_comm 1 j]
  exact hv
end Go.Proofs.YtcnhbodemabbdaaDoor
/- Structs and slice literals that bear a name, put together. Printed by wip/mkobjbuild.py. -/
namespace Go.Proofs.YtcnhbodemabbdaaDoor
open Go.RowKit
set_option linter.unusedVariables false

theorem len_cons {α : Type} {n : Nat} {x : List α} (h : x.length = n + 1) : ∃ a l, x = a :: l ∧ l.length = n := by
  cases x with
  | nil => cases h
  | cons a l => exact ⟨a, l, rfl, by simpa using h⟩
theorem list33 {α : Type} {x : List α} (h : x.length = 33) : ∃ b0 b1 b2 b3 b4 b5 b6 b7 b8 b9 b10 b11 b12 b13 b14 b15 b16 b17 b18 b19 b20 b21 b22 b23 b24 b25 b26 b27 b28 b29 b30 b31 b32 : α, x = [b0, b1, b2, b3, b4, b5, b6, b7, b8, b9, b10, b11, b12, b13, b14, b15, b16, b17, b18, b19, b20, b21, b22, b23, b24, b25, b26, b27, b28, b29, b30, b31, b32] := by
  obtain ⟨b0, x0, e0, h0⟩ := len_cons h
  obtain ⟨b1, x1, e1, h1⟩ := len_cons h0
  obtain ⟨b2, x2, e2, h2⟩ := len_cons h1
  obtain ⟨b3, x3, e3, h3⟩ := len_cons h2
  obtain ⟨b4, x4, e4, h4⟩ := len_cons h3
  obtain ⟨b5, x5, e5, h5⟩ := len_cons h4
  obtain ⟨b6, x6, e6, h6⟩ := len_cons h5
  obtain ⟨b7, x7, e7, h7⟩ := len_cons h6
  obtain ⟨b8, x8, e8, h8⟩ := len_cons h7
  obtain ⟨b9, x9, e9, h9⟩ := len_cons h8
  obtain ⟨b10, x10, e10, h10⟩ := len_cons h9
  obtain ⟨b11, x11, e11, h11⟩ := len_cons h10
  obtain ⟨b12, x12, e12, h12⟩ := len_cons h11
  obtain ⟨b13, x13, e13, h13⟩ := len_cons h12
  obtain ⟨b14, x14, e14, h14⟩ := len_cons h13
  obtain ⟨b15, x15, e15, h15⟩ := len_cons h14
  obtain ⟨b16, x16, e16, h16⟩ := len_cons h15
  obtain ⟨b17, x17, e17, h17⟩ := len_cons h16
  obtain ⟨b18, x18, e18, h18⟩ := len_cons h17
  obtain ⟨b19, x19, e19, h19⟩ := len_cons h18
  obtain ⟨b20, x20, e20, h20⟩ := len_cons h19
  obtain ⟨b21, x21, e21, h21⟩ := len_cons h20
  obtain ⟨b22, x22, e22, h22⟩ := len_cons h21
  obtain ⟨b23, x23, e23, h23⟩ := len_cons h22
  obtain ⟨b24, x24, e24, h24⟩ := len_cons h23
  obtain ⟨b25, x25, e25, h25⟩ := len_cons h24
  obtain ⟨b26, x26, e26, h26⟩ := len_cons h25
  obtain ⟨b27, x27, e27, h27⟩ := len_cons h26
  obtain ⟨b28, x28, e28, h28⟩ := len_cons h27
  obtain ⟨b29, x29, e29, h29⟩ := len_cons h28
  obtain ⟨b30, x30, e30, h30⟩ := len_cons h29
  obtain ⟨b31, x31, e31, h31⟩ := len_cons h30
  obtain ⟨b32, x32, e32, h32⟩ := len_cons h31
  have e33 := List.eq_nil_of_length_eq_zero h32
  subst e0 e1 e2 e3 e4 e5 e6 e7 e8 e9 e10 e11 e12 e13 e14 e15 e16 e17 e18 e19 e20 e21 e22 e23 e24 e25 e26 e27 e28 e29 e30 e31 e32 e33
  exact ⟨b0, b1, b2, b3, b4, b5, b6, b7, b8, b9, b10, b11, b12, b13, b14, b15, b16, b17, b18, b19, b20, b21, b22, b23, b24, b25, b26, b27, b28, b29, b30, b31, b32, rfl⟩
theorem build_kid (w : World) (s : ByteArray) (x : List UInt8) (hx : x.length = 33) : (Instr.build 77 #[(0, .string s), (1, .agg (bv x).toArray)]).run Tryd.prog w = .ok (.agg (kdC (s, x)).toArray) w := by
  obtain ⟨b0, b1, b2, b3, b4, b5, b6, b7, b8, b9, b10, b11, b12, b13, b14, b15, b16, b17, b18, b19, b20, b21, b22, b23, b24, b25, b26, b27, b28, b29, b30, b31, b32, rfl⟩ := list33 hx
  exact run_build w 77 _ _ (by kernel_rfl)
theorem build_pair (w : World) (s t : ByteArray) : (Instr.build 65 #[(0, .string s), (1, .string t)]).run Tryd.prog w = .ok (.agg (prC (s, t)).toArray) w := run_build w 65 _ _ (by kernel_rfl)
theorem build_cm1 (w : World) (x : List UInt8) (hx : x.length = 33) : (Instr.build 42 #[(0, .agg (bv x).toArray)]).run Tryd.prog w = .ok (.agg (cmC ⟨x, [], ByteArray.empty, 0⟩ none 0 0).toArray) w := by
  obtain ⟨b0, b1, b2, b3, b4, b5, b6, b7, b8, b9, b10, b11, b12, b13, b14, b15, b16, b17, b18, b19, b20, b21, b22, b23, b24, b25, b26, b27, b28, b29, b30, b31, b32, rfl⟩ := list33 hx
  exact run_build w 42 _ _ (by kernel_rfl)
theorem run_lit1 {P : Program} (w : World) (t e : TypeId) (v : Value) (cells : Array Value) (sz : Nat) (z : Value) (hu : P.underlying t = some (.slice e)) (hi : (P.info? e).map (fun i => (i.zero, i.size)) = some (some z, sz)) (hs : ¬ 1 * sz > 2 ^ 24) (hp : ¬ 1 * sz = 0)
    (h : Instr.fill (fun i => some (i * sz, sz)) ((Array.range (1 * sz)).map (z.cells[· % z.cells.size]!)) [(0, v)] = some cells) :
    (Instr.buildSlice t 1 #[(0, v)]).run P w = .ok (.slice (some ⟨w.heap.size, 0, none⟩) 1 1) (w.alloc (.cells cells e)) := by
  obtain ⟨ie, hie, hzz⟩ := Option.map_eq_some_iff.1 hi
  simp only [Prod.mk.injEq] at hzz
  obtain ⟨hz, hsz⟩ := hzz
  subst hsz
  exact run_buildSlice w t e 1 #[(0, v)] cells ie z hu hie hz hs hp h
theorem lit1_kid (w : World) (s : ByteArray) (x : List UInt8) (hx : x.length = 33) : (Instr.buildSlice 71 1 #[(0, .agg (kdC (s, x)).toArray)]).run Tryd.prog w = .ok (.slice (some ⟨w.heap.size, 0, none⟩) 1 1) (w.alloc (.cells (kdC (s, x)).toArray 77)) := by
  obtain ⟨b0, b1, b2, b3, b4, b5, b6, b7, b8, b9, b10, b11, b12, b13, b14, b15, b16, b17, b18, b19, b20, b21, b22, b23, b24, b25, b26, b27, b28, b29, b30, b31, b32, rfl⟩ := list33 hx
  exact run_lit1 w 71 77 _ _ 34 (.agg (.string ByteArray.empty :: bv idNone).toArray) Tryd.underlying71 (by kernel_rfl) (by decide) (by decide) (by kernel_rfl)
theorem lit1_pair (w : World) (s t : ByteArray) : (Instr.buildSlice 22 1 #[(0, .agg (prC (s, t)).toArray)]).run Tryd.prog w = .ok (.slice (some ⟨w.heap.size, 0, none⟩) 1 1) (w.alloc (.cells (prC (s, t)).toArray 65)) :=
  run_lit1 w 22 65 _ _ 2 (.agg #[.string ByteArray.empty, .string ByteArray.empty]) Tryd.underlying22 (by kernel_rfl) (by decide) (by decide) (by kernel_rfl)
theorem lit1_id (w : World) (x : List UInt8) (hx : x.length = 33) : (Instr.buildSlice 37 1 #[(0, .agg (bv x).toArray)]).run Tryd.prog w = .ok (.slice (some ⟨w.heap.size, 0, none⟩) 1 1) (w.alloc (.cells (bv x).toArray 27)) := by
  obtain ⟨b0, b1, b2, b3, b4, b5, b6, b7, b8, b9, b10, b11, b12, b13, b14, b15, b16, b17, b18, b19, b20, b21, b22, b23, b24, b25, b26, b27, b28, b29, b30, b31, b32, rfl⟩ := list33 hx
  exact run_lit1 w 37 27 _ _ 33 (.agg (bv idNone).toArray) Tryd.underlying37 (by kernel_rfl) (by decide) (by decide) (by kernel_rfl)
theorem st_pairs (w : World) (p : Addr) (A : Option Addr) (n c : Nat) (old : Value) (h : w.cell? p = some old) (hf : w.frozen? p = false) : (Instr.storeAt 22 (.pointer (some p)) (.slice A n c)).run Tryd.prog w = .ok () (w.setCell p (.slice A n c)) := by go_simp
theorem st_kids (w : World) (p : Addr) (A : Option Addr) (n c : Nat) (old : Value) (h : w.cell? p = some old) (hf : w.frozen? p = false) : (Instr.storeAt 71 (.pointer (some p)) (.slice A n c)).run Tryd.prog w = .ok () (w.setCell p (.slice A n c)) := by go_simp
theorem st_ids (w : World) (p : Addr) (A : Option Addr) (n c : Nat) (old : Value) (h : w.cell? p = some old) (hf : w.frozen? p = false) : (Instr.storeAt 37 (.pointer (some p)) (.slice A n c)).run Tryd.prog w = .ok () (w.setCell p (.slice A n c)) := by go_simp
theorem prs_snoc (ps : List Pr) (p : Pr) : (ps.map prC).flatten ++ prC p = ((ps ++ [p]).map prC).flatten := by simp
theorem kds_snoc (ks : List Kd) (k : Kd) : (ks.map kdC).flatten ++ kdC k = ((ks ++ [k]).map kdC).flatten := by simp
theorem ids_snoc (xs : List (List UInt8)) (x : List UInt8) : (xs.map bv).flatten ++ bv x = ((xs ++ [x]).map bv).flatten := by simp
end Go.Proofs.YtcnhbodemabbdaaDoor
