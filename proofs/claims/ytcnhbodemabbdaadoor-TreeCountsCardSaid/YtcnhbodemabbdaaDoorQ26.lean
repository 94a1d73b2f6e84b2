/- The walks of the reference's Text and Of, and of ident.Of. -/
import Derived.Test.YtcnhbodemabbdaaDoorQ19
import Derived.Test.YtcnhbodemabbdaaDoorQ23
import Derived.Test.YtcnhbodemabbdaaDoorQ25
import Derived.Lib.ConvBytes
import Derived.Test.YtcnhbodemabbdaaDoorQ17
namespace Go.Proofs.YtcnhbodemabbdaaDoor
open Go.RowKit
set_option linter.unusedVariables false

/-- []byte(s): new memory. -/
theorem conv_bytes (bs : List UInt8) (w : World) : ∃ c w', (convert 9 87 (.string (bstr bs))).run Tryd.prog w = .ok (.slice (some ⟨w.heap.size, 0, none⟩) bs.length c) w' ∧ Cells w' (some ⟨w.heap.size, 0, none⟩) (bv bs) ∧ Ext w w' ∧ w'.heap.size = w.heap.size + 1 := by
  refine ⟨grownCap w bs.length 0 5, Lib.bytesWorld w 5 (bstr bs), ?_, ?_, ?_, Lib.bytesWorld_size w 5 (bstr bs)⟩
  · have h := Lib.run_convert_string_bytes (P := Tryd.prog) w 9 87 5 (bstr bs) Tryd.underlying9 Tryd.underlying87 Tryd.underlying5
    rw [bstr_size] at h
    exact h
  · intro j v hv
    have hj : j < bs.length := by
      have := (List.getElem?_eq_some_iff.1 hv).1
      rwa [bv_length] at this
    refine ⟨_, rfl, ?_⟩
    rw [add_new, Lib.bytesWorld_cell w 5 (bstr bs) j (by rw [bstr_size]; exact hj), bstr_data]
    rw [bv_get hj] at hv
    rw [← hv, List.getD_eq_getElem?_getD, List.getElem?_eq_getElem hj]
    rfl
  · refine ⟨?_, ?_, ?_, ?_, fun k hk => Lib.bytesWorld_at_old w 5 (bstr bs) k hk⟩
    · simp [Lib.bytesWorld, World.freeze, World.alloc, World.drew, -World.alloc_eq, -World.drew_eq]
    · simp [Lib.bytesWorld, World.freeze, World.alloc, World.drew, -World.alloc_eq, -World.drew_eq]
    · simp [Lib.bytesWorld, World.freeze, World.alloc, World.drew, -World.alloc_eq, -World.drew_eq]
    · rw [Lib.bytesWorld_size]; omega
theorem dgv_size (bs : List UInt8) : (dgv bs).size = 32 := by rw [dgv, List.size_toArray, bv_length, sha_len]
theorem dgv_cells (bs : List UInt8) : ∀ v ∈ (dgv bs).toList, v.oneCell' = true := by rw [dgv, List.toList_toArray]; exact bv_cells _

set_option maxRecDepth 50000 in
set_option maxHeartbeats 2000000 in
theorem rtext14_calls (k : UInt8) (bs : List UInt8) (w : World) (hl : bs.length ≤ 1048576) : Calls Tryd.prog 68 #[.int .u8 k.toNat, .string (bstr bs)] w fun e w' => e = .returned (.string (bstr (idName k bs))) ∧ Ext w w' := by
  have e1 := u8_eq_one (k := k)
  have e2 := u8_eq_two (k := k)
  have hz := bstr_size bs
  by_cases h1 : k = 1
  · subst h1
    have hsum := fun w' => refSum_bytes (bstr bs) bs (bstr_data bs) w' (by rw [bstr_size]; unfold maxLen; omega)
    have hby := fun w' => refBytes_calls (fnv bs) w'
    have hn : idName 1 bs = 1 :: bytes8 (fnv bs) := rfl
    rw [hn]
    have happ : (⟨#[1]⟩ : ByteArray) ++ bstr (bytes8 (fnv bs)) = bstr (1 :: bytes8 (fnv bs)) := bstr_append [1] _
    have hz2 : (bstr (bytes8 (fnv bs))).size = 8 := by rw [bstr_size]; rfl
    go_enter Tryd.func68, Tryd.ntmps68
    go_wp2_with (first
      | (go_at_call 95; ((with_reducible refine (hsum _).mono ?_); rintro e w1 ⟨rfl, rfl⟩))
      | (go_at_call 94; ((with_reducible refine (hby _).mono ?_); rintro e w2 ⟨rfl, hx2⟩)))
    go_ret
    exact ⟨rfl, hx2⟩
  rw [decide_eq_false h1] at e1
  by_cases h2 : k = 2
  · subst h2
    have hn : idName 2 bs = 2 :: sha bs := rfl
    rw [hn]
    obtain ⟨c, wB, hcv, hcB, hxB, hszB⟩ := conv_bytes bs w
    obtain ⟨n, hnl⟩ : ∃ n, bs.length = n := ⟨_, rfl⟩
    rw [hnl] at hcv
    have hof := fun w' h => refOf_calls (some ⟨w.heap.size, 0, none⟩) n c bs w' h hnl (by omega)
    have happ : (⟨#[2]⟩ : ByteArray) ++ bstr (sha bs) = bstr (2 :: sha bs) := bstr_append [2] _
    have hz2 : (bstr (sha bs)).size = 32 := by rw [bstr_size, sha_len]
    clear hnl
    go_enter Tryd.func68, Tryd.ntmps68
    go_wp2_with (first
      | (go_at_call 96; ((with_reducible refine (hof _ hcB).mono ?_); rintro e w2 ⟨rfl, hx2⟩))
      | (refine wpList_store_blk rfl 25 (.tmp 5) (.tmp 16) rfl rfl w2.heap.size (dgv bs) rfl rfl _ _ (Blk.new_at rfl _ _) (dgv_size _) (by kernel_rfl) (dgv_cells _) ?_; intro w4 hb4 hg4; have hx4 : Ext w2 w4 := ((Ext.refl _).alloc _).grown_ hg4 (by simp); have hc4 := Blk.cells hb4; rw [dgv, List.toList_toArray] at hc4; have hcv4 := conv_str (P := Tryd.prog) Tryd.underlying87 Tryd.underlying5 Tryd.underlying9 (c := 32) (bs := sha bs) (n := 32) (sha_len _) hc4; have hsa := fun w => slice_all (P := Tryd.prog) 25 5 32 Tryd.underlying25 (by kernel_rfl) w2.heap.size 0 (by decide) w))
    go_ret
    exact ⟨rfl, (hxB.trans hx2).trans hx4⟩
  rw [decide_eq_false h2] at e2
  have hn : idName k bs = [] := by unfold idName; rw [if_neg h1, if_neg h2]
  rw [hn]
  go_enter Tryd.func68, Tryd.ntmps68
  go_wp2
  go_ret
  exact ⟨rfl, Ext.refl _⟩

set_option maxRecDepth 50000 in
set_option maxHeartbeats 2000000 in
theorem rof_calls (k : UInt8) (bs : List UInt8) (w : World) (hl : bs.length ≤ 1048576) : Calls Tryd.prog 43 #[.int .u8 k.toNat, .string (bstr bs)] w fun e w' => e = .returned (idv (idPad (idName k bs))) ∧ Ext w w' := by
  have htx := fun w' => rtext14_calls k bs w' hl
  obtain ⟨T, hT⟩ : ∃ T, T = idName k bs := ⟨_, rfl⟩
  have hTl : T.length ≤ 33 := by rw [hT]; exact idName_len k bs
  rw [← hT] at htx ⊢
  have hid := fun w' => rid_calls T w' hTl
  unfold idv at hid
  unfold idv
  have hpl : (bv (idPad T)).toArray.size = 33 := by rw [List.size_toArray, bv_len, idPad_len hTl]
  clear hT
  go_enter Tryd.func43, Tryd.ntmps43
  go_wp2_with (first
    | (go_at_call 68; ((with_reducible refine (htx _).mono ?_); rintro e w1 ⟨rfl, hx1⟩; have hb1 := (Blk.new w 27 (bv idNone).toArray).ext hx1))
    | (go_at_call 67; ((with_reducible refine (hid _).mono ?_); rintro e w2 ⟨rfl, hx2⟩; have hb2 := hb1.ext hx2))
    | (refine wpList_store_blk rfl 27 (.tmp 4) (.tmp 8) rfl rfl w.heap.size (bv (idPad T)).toArray rfl rfl _ _ hb2 (by rw [hpl]; rfl) (by kernel_rfl) (bv_cells _) ?_; intro w4 hb4 hg4))
  exact bodyPost_ret (results_cell_row (P := Tryd.prog) (fn := Tryd.f43) rfl _ _ _ _ (bv (idPad T)).toArray _ _ rfl hb4 Tryd.underlying27 rfl (by rw [hpl]; kernel_rfl)) rfl ⟨rfl, ((((Ext.refl _).alloc _).trans hx1).trans hx2).grown_ hg4 (by simp)⟩

/-- A part of a row, stored. -/
theorem run_store_seg {P : Program} {w : World} {g : Nat} {t ty : TypeId} {cs : Array Value} (h : Blk w g t cs) (o : Nat) {vs : Array Value} (hfit : o + vs.size ≤ cs.size) (hi : (P.info? ty).map (·.size) = some vs.size) (h1 : ∀ v ∈ vs.toList, v.oneCell' = true) :
    (Instr.storeAt ty (.pointer (some ⟨g, o, none⟩)) (.agg vs)).run P w = .ok () (w.setRow g (cs.toList.take o ++ vs.toList ++ cs.toList.drop (o + vs.size)).toArray) := by
  have hst := run_storeCells_at P g o t vs.toList 0 cs w h (by simpa using hfit) h1
  cases hq : P.info? ty with
  | none => simp [hq] at hi
  | some i =>
    have hsz : i.size = vs.size := by simpa [hq] using hi
    simp only [Nat.add_zero, Array.length_toList] at hst
    simp [Instr.storeAt, Instr.sureAddr, storeVar, Value.cells, sizeOf, typeInfo, hq, hsz, hst]
theorem wpList_store_seg {P : Program} {ops : Array Oper} {rest : List Oper} {o : Oper} {a : Act} {w : World} {Q : Exit → Act → World → Prop} (hgd : o.guard = none) (ty : TypeId) (x y : Operand) (ho : o.op = .store ty x y) (hod : o.dst = none) (g off : Nat) (vs : Array Value)
    (hx : a.eval x = .pointer (some ⟨g, off, none⟩)) (hy : a.eval y = .agg vs) (t : TypeId) (cs : Array Value) (h : Blk w g t cs) (hfit : off + vs.size ≤ cs.size) (hi : (P.info? ty).map (·.size) = some vs.size) (h1 : ∀ v ∈ vs.toList, v.oneCell' = true)
    (hk : ∀ w', Blk w' g t (cs.toList.take off ++ vs.toList ++ cs.toList.drop (off + vs.size)).toArray → w.grownBy w' (some g) → wpList P ops Q rest a w') : wpList P ops Q (o :: rest) a w := by
  refine wpList_plain hgd fun _ hK => ?_
  unfold Oper.wp execOp
  simp only [ho, hx, hy, Sem.run_bind, run_store_seg h off hfit hi h1, Result.andThen_ok, Sem.run_pure]
  have := hK _ _ (hk _ (h.row _) ⟨rfl, rfl, rfl, by simp, fun k _ hne => setRow_other w g k _ (fun e => hne (by rw [e]))⟩)
  simpa [Oper.upon, hod, Act.put] using this
theorem BSs.one {w : World} {a : Option Addr} {v : Value} {xs : List UInt8} (h : Cells w a [v]) (hv : BS w v xs) : BSs w a [xs] := by
  intro i bs hi
  match i with
  | 0 =>
    simp at hi; subst hi
    obtain ⟨x, e, hc⟩ := h 0 v rfl
    exact ⟨x, v, e, hc, hv⟩
  | n + 1 => simp at hi

theorem seg_two (bs : List UInt8) : ((bv (idNew 2)).toArray.toList.take 1 ++ (bv (sha bs)).toArray.toList ++ (bv (idNew 2)).toArray.toList.drop (1 + (bv (sha bs)).toArray.size)).toArray = (bv ((idNew 2).take 1 ++ sha bs)).toArray := by
  rw [List.toList_toArray, List.toList_toArray, List.size_toArray, bv_len, sha_len, List.drop_of_length_le (by rw [bv_len]; decide), List.append_nil, bv_take, bv_cat]

set_option maxRecDepth 50000 in
set_option maxHeartbeats 4000000 in
theorem idof_calls (k : UInt8) (A : Option Addr) (n c : Nat) (bs : List UInt8) (w : World) (hb : Cells w A (bv bs)) (hn : bs.length = n) (hc : n ≤ c) (hl : n ≤ 1048576) (hT : Tab w) :
    Calls Tryd.prog 40 #[.int .u8 k.toNat, .slice A n c] w fun e w' => e = .returned (idv (idPad (idName k bs))) ∧ Ext w w' := by
  have e1 := u8_eq_one (k := k)
  have e2 := u8_eq_two (k := k)
  unfold idv
  have hpl : (bv (idPad (idName k bs))).toArray.size = 33 := by rw [List.size_toArray, bv_len, idPad_len (idName_len k bs)]
  by_cases h1 : k = 1
  · subst h1
    have hpad : idPad (idName 1 bs) = (idNew 1).take 1 ++ bytes8 (fnv bs) ++ (idNew 1).drop 9 := rfl
    rw [hpad] at hpl ⊢
    obtain ⟨B, hB⟩ : ∃ B, B = (idNew 1).take 1 ++ bytes8 (fnv bs) ++ (idNew 1).drop 9 := ⟨_, rfl⟩
    rw [← hB] at hpl ⊢
    have HB := Lib.hid hB
    clear hB hpad
    go_enter Tryd.func40, Tryd.ntmps40
    go_wp2_with (first
      | (refine wpList_store_blk rfl 27 (.tmp 5) (.tmp 8) rfl rfl (w.heap.size + 1) (bv (idNew 1)).toArray rfl rfl _ _ (Blk.new_at (by simp) _ _) rfl (by kernel_rfl) (bv_cells _) ?_; intro w1 hb1 hg1; have hb0 := ((Blk.new w 27 (bv idNone).toArray).alloc _).grown hg1 (by simp); have hx1 : Ext w w1 := (((Ext.refl _).alloc _).alloc _).grown_ hg1 (by simp))
      | (go_at_call 57; ((with_reducible refine (sum_one_calls _ A n c 1 bs _ ?h1 hc ((hb.ext hx1).ext ((Ext.refl _).alloc _)) hn (by unfold maxLen; omega)).mono ?_); (case h1 => (go_simp; done)); rintro e w2 ⟨rfl, rfl⟩))
      | (go_at_call 56; ((with_reducible refine (fnvBytes_calls (fnv bs) _).mono ?_); rintro e w3 ⟨rfl, hx3⟩; have hx13 := (hx1.alloc _).trans hx3; have hb13 := (hb1.alloc _).ext hx3; have hb03 := (hb0.alloc _).ext hx3))
      | (refine wpList_store_blk rfl 116 (.tmp 6) (.tmp 16) rfl rfl w3.heap.size (arr8 (fnv bs) 8) rfl rfl _ _ (Blk.new_at rfl _ _) (arr8_size _ _) (by kernel_rfl) (by rw [arr8_all]; exact bv_cells _) ?_; intro w4 hb4 hg4; have hx4 : Ext w3 w4 := ((Ext.refl _).alloc _).grown_ hg4 (by simp); have hb14 := hb13.ext hx4; have hb04 := hb03.ext hx4; have hx14 := hx13.trans hx4))
    obtain ⟨g, hgw⟩ : ∃ g, g = w.heap.size + 1 := ⟨_, rfl⟩
    obtain ⟨g6, hg6w⟩ : ∃ g6, g6 = w3.heap.size := ⟨_, rfl⟩
    have hg0 : w.heap.size ≠ g := by omega
    have hgl : w.heap.size ≤ g := by omega
    rw [← hgw] at hb14 ⊢
    rw [← hg6w] at hb4 ⊢
    clear hgw hg1 hg6w hg4 hb13 hb03 hb1 hb0
    have hc8 : ∀ u, Blk u g6 116 (arr8 (fnv bs) 8) → Cells u (some ⟨g6, 0, none⟩) (bv (bytes8 (fnv bs))) := fun u hu => by
      have := Blk.cells hu
      rwa [arr8_all] at this
    refine wp_region_ops (CInv [17, 18, 19, 20] _
      [(0, 17, .pointer (some ⟨g, 1, none⟩)), (1, 18, .slice (some ⟨g, 1, none⟩) 32 32), (2, 19, .slice (some ⟨g6, 0, none⟩) 8 8)]
      [(3, some 20)] (fun xs u => (xs = [] ∧ u = w4.drew) ∨ (xs ≠ [] ∧ Blk u g 27 (bv B).toArray ∧ w4.drew.grownBy u (some g)))) (by kernel_rfl) (by kernel_rfl) (CInv.start (.inl ⟨rfl, rfl⟩)) ?_ ?_
    · refine ⟨?o0, ?o1, ?o2, ?o3, trivial⟩
      case o0 =>
        intro f a u h hfi hp hq
        have q5 : a.tmps[5]?.getD undef = .pointer (some ⟨g, 0, none⟩) := h.agree.att (by decide)
        exact h.yield rfl rfl 17 rfl (by change 17 < 28; decide) rfl _ rfl (by go_simp)
      case o1 =>
        intro f a u h hfi hp hq
        have q17 := h.att 0 rfl (pre_of hp 0 rfl)
        have hsa := slice_all (P := Tryd.prog) 25 5 32 Tryd.underlying25 (by kernel_rfl) g 1 (by decide) u
        exact h.yield rfl rfl 18 rfl (by change 18 < 28; decide) rfl _ rfl (by go_simp)
      case o2 =>
        intro f a u h hfi hp hq
        have q6 : a.tmps[6]?.getD undef = .pointer (some ⟨g6, 0, none⟩) := h.agree.att (by decide)
        have hsa := slice_all (P := Tryd.prog) 116 5 8 Tryd.underlying116 (by kernel_rfl) g6 0 (by decide) u
        exact h.yield rfl rfl 19 rfl (by change 19 < 28; decide) rfl _ rfl (by go_simp)
      case o3 =>
        intro f a u h hfi hp hq
        have q18 := h.at_ 1 rfl (pre_of hp 1 rfl)
        have q19 := h.at_ 2 rfl (pre_of hp 2 rfl)
        refine h.link hfi rfl rfl 0 _ rfl rfl (fun t ht => by cases ht; change 20 < 28; decide) rfl (fun k c d' hk _ => by omega) ?_
        rintro xs hl hW _
        obtain rfl : xs = [] := List.eq_nil_of_length_eq_zero hl
        rcases hW with ⟨_, rfl⟩ | ⟨hne, _⟩
        · refine wp_copy_buf (.tmp 18) (.tmp 19) rfl 1 32 32 q18 (some ⟨g6, 0, none⟩) 8 8 (bytes8 (fnv bs)) q19 rfl (by decide) (hc8 _ hb4.drew) (B := idNew 1) hb14.drew (by decide) 8 (by decide) fun w' hb' hg' => ⟨_, rfl, .inr ⟨by simp, ?_, hg'⟩⟩
          have e : (idNew 1).take 1 ++ (bytes8 (fnv bs)).take 8 ++ (idNew 1).drop (1 + 8) = B := HB.out.symm
          rw [e] at hb'
          exact hb'
        · exact absurd rfl hne
    · intro f a u h hall hfar
      have hag := h.agree.out
      obtain ⟨xs, hxl, hW, _⟩ := h.done (by intro c hc; simp only [List.mem_singleton] at hc; subst hc; exact hall 3 (by decide))
      rcases hW with ⟨rfl, _⟩ | ⟨_, hbP, hgP⟩
      · cases hxl
      have hb0P := (hb04.drew).grown hgP (fun e => hg0 (Option.some.inj e))
      have hxP : Ext w u := (hx14.drew).grown_ hgP (by intro k hk; cases hk; exact hgl)
      simp only [List.foldl_cons, List.foldl_nil, Act.put, List.setIfInBounds_toArray, List.set_cons_zero, List.set_cons_succ] at hag
      generalize a.eval (.tmp 17) = y17 at hag
      generalize a.eval (.tmp 18) = y18 at hag
      generalize a.eval (.tmp 19) = y19 at hag
      generalize a.eval (.tmp 20) = y20 at hag
      clear h hall hfar hb04 hb14 hb4
      subst hag
      go_wp2_with (first
        | (refine wpList_load_blk rfl 27 (.tmp 5) rfl g rfl _ _ _ hbP Tryd.underlying27 rfl (by rw [hpl]; kernel_rfl) ?_)
        | (refine wpList_store_blk rfl 27 (.tmp 4) (.tmp 27) rfl rfl w.heap.size (bv B).toArray rfl rfl _ _ hb0P (by rw [hpl]; rfl) (by kernel_rfl) (bv_cells _) ?_; intro w5 hb5 hg5))
      exact bodyPost_ret (results_cell_row (P := Tryd.prog) (fn := Tryd.f40) rfl _ _ _ _ (bv B).toArray _ _ rfl hb5 Tryd.underlying27 rfl (by rw [hpl]; kernel_rfl)) rfl ⟨rfl, hxP.grown_ hg5 (by simp)⟩
  rw [decide_eq_false h1] at e1
  by_cases h2 : k = 2
  · subst h2
    have hpad : idPad (idName 2 bs) = (idNew 2).take 1 ++ sha bs := by
      unfold idPad idName
      rw [if_neg (by decide), if_pos rfl, List.length_cons, sha_len]
      rw [show 33 - (32 + 1) = 0 from rfl, List.replicate_zero, List.append_nil]
      rfl
    rw [hpad] at hpl ⊢
    obtain ⟨B, hB⟩ : ∃ B, B = (idNew 2).take 1 ++ sha bs := ⟨_, rfl⟩
    rw [← hB] at hpl ⊢
    have HB := Lib.hid hB
    clear hB hpad
    go_enter Tryd.func40, Tryd.ntmps40
    go_wp2_with (first
      | (refine wpList_store_blk rfl 27 (.tmp 5) (.tmp 8) rfl rfl (w.heap.size + 1) (bv (idNew 2)).toArray rfl rfl _ _ (Blk.new_at (by simp) _ _) rfl (by kernel_rfl) (bv_cells _) ?_; intro w1 hb1 hg1; have hb0 := ((Blk.new w 27 (bv idNone).toArray).alloc _).grown hg1 (by simp); have hx1 : Ext w w1 := (((Ext.refl _).alloc _).alloc _).grown_ hg1 (by simp))
      | (go_at_call 58; ((with_reducible refine (of_calls (some ⟨w1.heap.size, 0, none⟩) 1 1 [bs] _ (BSs.one (Cells.lit rfl [_] _ _) (BS.of hn hc ((hb.ext hx1).ext ((Ext.refl _).alloc _)))) rfl (by decide) (by simpa [hn] using hl) (hT.ext (hx1.alloc _))).mono ?_); rintro e w3 ⟨rfl, hx3⟩; have hx13 := (hx1.alloc _).trans hx3; have hb13 := (hb1.alloc _).ext hx3; have hb03 := (hb0.alloc _).ext hx3))
      | (refine wpList_store_seg rfl 25 (.tmp 26) (.tmp 25) rfl rfl (w.heap.size + 1) 1 _ rfl rfl _ _ hb13 (by rw [List.size_toArray, List.size_toArray, bv_len, bv_len, sha_len]; decide) (by rw [List.size_toArray, bv_len, sha_len]; kernel_rfl) (by rw [List.toList_toArray]; exact bv_cells _) ?_; intro w4 hb4 hg4; rw [seg_two, ← HB.out] at hb4; have hb04 := hb03.grown hg4 (by simp); have hx4 : Ext w w4 := hx13.grown_ hg4 (by intro k hk; cases hk; omega))
      | (refine wpList_load_blk rfl 27 (.tmp 5) rfl (w.heap.size + 1) rfl _ _ _ hb4 Tryd.underlying27 rfl (by rw [hpl]; kernel_rfl) ?_)
      | (refine wpList_store_blk rfl 27 (.tmp 4) (.tmp 27) rfl rfl w.heap.size (bv B).toArray rfl rfl _ _ hb04 (by rw [hpl]; rfl) (by kernel_rfl) (bv_cells _) ?_; intro w5 hb5 hg5))
    exact bodyPost_ret (results_cell_row (P := Tryd.prog) (fn := Tryd.f40) rfl _ _ _ _ (bv B).toArray _ _ rfl hb5 Tryd.underlying27 rfl (by rw [hpl]; kernel_rfl)) rfl ⟨rfl, hx4.grown_ hg5 (by simp)⟩
  rw [decide_eq_false h2] at e2
  have hn0 : idPad (idName k bs) = idNone := by unfold idName; rw [if_neg h1, if_neg h2]; rfl
  rw [hn0]
  go_enter Tryd.func40, Tryd.ntmps40
  go_wp2_with (first
    | (refine wpList_store_blk rfl 27 (.tmp 5) (.tmp 8) rfl rfl (w.heap.size + 1) (bv (idNew k)).toArray rfl rfl _ _ (Blk.new_at (by simp) _ _) rfl (by kernel_rfl) (bv_cells _) ?_; intro w1 hb1 hg1; have hb0 := ((Blk.new w 27 (bv idNone).toArray).alloc _).grown hg1 (by simp); have hx1 : Ext w w1 := (((Ext.refl _).alloc _).alloc _).grown_ hg1 (by simp))
    | (refine wpList_store_blk rfl 27 (.tmp 4) (.tmp 10) rfl rfl w.heap.size (bv idNone).toArray rfl rfl _ _ hb0 rfl (by kernel_rfl) (bv_cells _) ?_; intro w5 hb5 hg5))
  exact bodyPost_ret (results_cell_row (P := Tryd.prog) (fn := Tryd.f40) rfl _ _ _ _ (bv idNone).toArray _ _ rfl hb5 Tryd.underlying27 rfl (by kernel_rfl)) rfl ⟨rfl, hx1.grown_ hg5 (by simp)⟩
end Go.Proofs.YtcnhbodemabbdaaDoor
/- Names compared; the laws' own function alive. -/
namespace Go.Proofs.YtcnhbodemabbdaaDoor
open Go.RowKit
set_option linter.unusedVariables false

theorem idPad_len33 (k : UInt8) (bs : List UInt8) : (idPad (idName k bs)).length = 33 := idPad_len (idName_len k bs)
theorem idText_of {k : UInt8} (bs : List UInt8) (h : 0 < idN k) : idText (idPad (idName k bs)) = idName k bs := (idCan_pad (idName_can bs h)).2
theorem idGood_of {k : UInt8} (bs : List UInt8) (h : 0 < idN k) : idGood (idPad (idName k bs)) = true := (idCan_pad (idName_can bs h)).1

/-- A struct loaded, under a guard or not. -/
theorem wpList_load_w {P : Program} {ops : Array Oper} {rest : List Oper} {o : Oper} {a : Act} {w : World} {Q : Exit → Act → World → Prop} (ty : TypeId) (x : Operand) (ho : o.op = .load ty x)
    (g : Nat) (hx : a.eval x = .pointer (some ⟨g, 0, none⟩)) (hw : Region.wanted o (yielded ops a.tmps) = true) (t : TypeId) (cs : Array Value) (d : TypeDesc) (h : Blk w g t cs)
    (hu : P.underlying ty = some d) (hd : (match d with | .struct _ | .array _ _ => true | _ => false) = true) (hi : (P.info? ty).map (·.size) = some cs.size)
    (hk : wpList P ops Q rest (a.put o.dst (.agg cs)) w) : wpList P ops Q (o :: rest) a w :=
  wpList_step fun K hK => by
    rw [if_pos hw]
    exact wp_load_row ty x ho g hx t cs (0, 0) d h hu hd hi (hK _ _ hk)
/-- An operation whose guard says no. -/
theorem wpList_skip {P : Program} {ops : Array Oper} {rest : List Oper} {o : Oper} {a : Act} {w : World} {Q : Exit → Act → World → Prop} {g : Nat} {b : Bool} (hgd : o.guard = some (g, b)) (hw : Region.wanted o (yielded ops a.tmps) = false)
    (hk : wpList P ops Q rest (a.put o.dst undef) w) : wpList P ops Q (o :: rest) a w :=
  wpList_step fun K hK => by
    rw [if_neg (by rw [hw]; decide)]
    exact hK _ _ hk
end Go.Proofs.YtcnhbodemabbdaaDoor
