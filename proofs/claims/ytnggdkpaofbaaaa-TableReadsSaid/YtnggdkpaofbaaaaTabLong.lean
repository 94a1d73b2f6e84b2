/- Long; noughts behind a row. Printed by wip/mktabreads.py. -/
import Derived.Test.YtnggdkpaofbaaaaTabReadSt
import Derived.Test.YtnggdkpaofbaaaaOpenTab
import Derived.Test.YtnggdkpaofbaaaaAppZero
namespace Go.Proofs.Ytnggdkpaofbaaaa
open Go.RowKit Go.Shelf
set_option linter.unusedVariables false

/-- append(x, make([]byte, n)...), x the call's own. -/
theorem wpList_append_zeros (w : World) {ops : Array Oper} {rest : List Oper} {o : Oper} {a : Act} {Q : Exit → Act → World → Prop} (hgd : o.guard = none) (s x : Operand)
    (ho : o.op = .call { callee := .builtin .append, args := #[s, x], argTypes := #[31, 3] })
    (B : Nat) (v : Value) (xs : List UInt8) (hs : a.eval s = v) (hown : Own B w v xs) (n : Nat) (L : Int) (hx : a.eval x = .int .i64 L) (hL : L = (n : Int)) (hn : 0 < n)
    (hlen : xs.length + n ≤ 140737488355328) (hbase : B ≤ w.heap.size)
    (h : ∀ v' w', Own B w' v' (xs ++ List.replicate n 0) → w.grownBy w' v.ownBlock → wpList Try.prog ops Q rest (a.put o.dst v') w') : wpList Try.prog ops Q (o :: rest) a w := by
  subst hL
  obtain ⟨i, hi0, hz, hsize, hby⟩ := info_parts u8_info
  have hbs : (bstr (List.replicate n 0)).size = n := by rw [bstr_size, List.length_replicate]
  obtain ⟨A1, c1, hv, _, _, _⟩ := hown.form
  obtain ⟨v', w', hrun, h2, h3, _⟩ := Lib.run_append_own_string (P := Try.prog) w B 31 9 o.type 5 i Try.underlying31 Try.underlying9 hi0 hz hsize hby v xs.length (bv xs) hown (bstr (List.replicate n 0)) (by rw [hbs]; simp only [maxLen]; omega) (by rw [hbs]; exact hlen) hbase
  have hz0 := run_append_zeros (P := Try.prog) w 31 3 9 o.type 5 i Try.underlying31 Try.underlying3 Try.underlying9 hi0 hz hsize hby A1 xs.length c1 n hn hlen
  rw [← hv] at hz0
  rw [hrun] at hz0
  refine wpList_plain hgd fun _ hK => ?_
  unfold Oper.wp execOp
  simp only [ho, resolve, invoke, builtin, Sem.run_bind, Sem.run_pure, Result.andThen_ok, List.map_toArray, List.map_cons, List.map_nil, hs, hx, hz0]
  refine hK _ _ (h v' w' ?_ h3)
  unfold Own
  rw [hbs] at h2
  have e : Lib.strCells (bstr (List.replicate n 0)) = bv (List.replicate n 0) := by rw [Lib.strCells, bstr_data]; rfl
  rw [e] at h2
  rw [List.length_append, List.length_replicate, bv_append]
  exact h2

theorem run_append_none {P : Program} (w : World) (t tn ty e : TypeId) (i : TypeInfo) (ht : P.underlying t = some (.slice e)) (htn : P.underlying tn = some (.int .i64)) (hi : P.info? e = some i) (hz : i.zero = some (.int .u8 0)) (hs : i.size = 1) (hb : i.bytes = 1)
    (b : Option Addr) (l c : Nat) (hlc : l ≤ c) : (Builtin.append_ #[t, tn] ty #[.slice b l c, .int .i64 0]).run P w = .ok (.slice b l c) w := by
  have hw : IntKind.i64.wrap 0 = 0 := by rw [IntKind.wrap_i64]; omega
  simp [Builtin.append_, run_underlying ht, run_underlying htn, sizeOf, typeInfo, zeroValue, hi, hz, hs, hb, asInt, asIntOf, hw, Builtin.lenOf, hlc]
  cases b with
  | none => rfl
  | some a => simp [storeCells]
theorem wpList_append_zerosN (w : World) {ops : Array Oper} {rest : List Oper} {o : Oper} {a : Act} {Q : Exit → Act → World → Prop} (hgd : o.guard = none) (s x : Operand)
    (ho : o.op = .call { callee := .builtin .append, args := #[s, x], argTypes := #[31, 3] })
    (B : Nat) (v : Value) (xs : List UInt8) (hs : a.eval s = v) (hown : Own B w v xs) (n : Nat) (L : Int) (hx : a.eval x = .int .i64 L) (hL : L = (n : Int))
    (hlen : xs.length + n ≤ 140737488355328) (hbase : B ≤ w.heap.size)
    (h : ∀ v' w', Own B w' v' (xs ++ List.replicate n 0) → w.grownBy w' v.ownBlock → wpList Try.prog ops Q rest (a.put o.dst v') w') : wpList Try.prog ops Q (o :: rest) a w := by
  by_cases hn : 0 < n
  · exact wpList_append_zeros w hgd s x ho B v xs hs hown n L hx hL hn hlen hbase h
  obtain rfl : n = 0 := by omega
  subst hL
  obtain ⟨i, hi0, hz, hsize, hby⟩ := info_parts u8_info
  obtain ⟨A1, c1, hv, hlc, _, _⟩ := hown.form
  have hz0 := run_append_none (P := Try.prog) w 31 3 o.type 5 i Try.underlying31 Try.underlying3 hi0 hz hsize hby A1 xs.length c1 hlc
  rw [← hv] at hz0
  refine wpList_plain hgd fun _ hK => ?_
  unfold Oper.wp execOp
  simp only [ho, resolve, invoke, builtin, Sem.run_bind, Sem.run_pure, Result.andThen_ok, List.map_toArray, List.map_cons, List.map_nil, hs, hx, hz0, Int.ofNat_zero, Int.natCast_zero, Int.cast_ofNat_Int, Int.ofNat_eq_natCast]
  refine hK _ _ (h v w ?_ (World.grownBy.refl w _))
  rw [List.replicate_zero, List.append_nil]
  exact hown
def LongP (ls : List W3) (e : Ending) : Prop := ∃ b, e = .returned (.bool b) ∧ (b = true ↔ ¬ ∀ x ∈ ls, okR x)
theorem LongP.of (ls : List W3) (b : Bool) (h : b = true ↔ ¬ ∀ x ∈ ls, okR x) : LongP ls (.returned (.bool b)) := ⟨b, rfl, h⟩
set_option maxRecDepth 50000 in
set_option maxHeartbeats 4000000 in
theorem rlong_calls (ls : List W3) (A : Option Addr) (n c : Nat) (w : World) (hr : Row w A 3 (ls.map wC)) (hn : ls.length = n) (hl : n ≤ 140737488351232) :
    Calls Try.prog 9 #[.slice A n c] w fun e w' => LongP ls e ∧ Ext w w' := by
  have Hr := Lib.hid hr
  have Hn := Lib.hid hn
  clear hr hn
  go_enter Try.func9, Try.ntmps9
  go_upto_region 2 with (fail)
  go_loopw [7] (fun i wr => ∃ (k : Nat), k ≤ n ∧ i = .int .i64 k ∧ Hid (∀ x ∈ ls.take k, okR x) ∧ Ext w wr) (fun i _ => n - (intOf i).toNat)
  case atStart => exact ⟨0, Nat.zero_le _, rfl, Lib.hid (fun x hx => by cases hx), Ext.refl _⟩
  case round =>
    obtain ⟨k, hk, rfl, HALL, hx⟩ := hrel
    by_cases hlt : k < n
    · have hkl : k < ls.length := by rw [Hn.out]; exact hlt
      obtain ⟨ad, rfl, hlc0⟩ := Hr.out.get (i := k) (by simpa using hkl)
      rw [List.getElem_map] at hlc0
      obtain ⟨x, hxe⟩ : ∃ x, x = ls[k] := ⟨_, rfl⟩
      have htk : ls.take (k + 1) = ls.take k ++ [x] := by rw [List.take_succ_eq_append_getElem hkl, hxe]
      have hmem : x ∈ ls := by rw [hxe]; exact List.getElem_mem hkl
      rw [← hxe] at hlc0
      have hlc : ∀ (j : Nat) (v : Value), (wC x)[j]? = some v → wr.cell? ((ad.add (k * 3)).add j) = some v := fun j v hj => hx.cell (hlc0 j v hj)
      have HTK := Lib.hid htk
      have HMEM := Lib.hid hmem
      clear hxe hlc0 hkl htk hmem
      have hp0 : (0 : Int) ≤ (k : Int) := by omega
      have hp1 : (k : Int) < (n : Int) := by omega
      go_upto_region 4 with (first
        | (refine wpList_load_row_ rfl 46 (.tmp 9) rfl (ad.add (k * 3)) rfl (wC x) _ hlc Try.underlying46 rfl (by rw [w_info]; rfl) ?_)
        | (refine wpList_store_blk rfl 46 (.tmp 4) (.tmp 10) rfl rfl wr.heap.size (wC x).toArray rfl rfl _ _ (Blk.new wr _ _) rfl (by kernel_rfl) (wC_one x) ?_; intro w3 hb3 hg3; have hx3 : Ext wr w3 := ((Ext.refl _).alloc _).grown_ hg3 (by simp)))
      obtain ⟨q, hq⟩ : ∃ q, q = wr.heap.size := ⟨_, rfl⟩
      rw [← hq] at hb3 ⊢
      obtain ⟨x0, x1, x2⟩ := x
      have p0 : w3.cell? ⟨q, 0, none⟩ = some (.string x0) := by rw [hb3.cell]; rfl
      have p1 : w3.cell? ⟨q, 1, none⟩ = some (.string x1) := by rw [hb3.cell]; rfl
      have hxx := hx.trans hx3
      clear hb3 hlc hg3 hq hx hx3
      by_cases h1 : (48 : Int) < (x0.size : Int)
      · have HB : Hid (¬ ∀ x ∈ ls, okR x) := Lib.hid (fun h => by have := (h _ HMEM.out).1; have h2 : x0.size ≤ 48 := this; omega)
        go_wp2
        go_ret
        exact ⟨LongP.of ls true ⟨fun _ => HB.out, fun _ => rfl⟩, hxx⟩
      by_cases h2 : (160 : Int) < (x1.size : Int)
      · have HB : Hid (¬ ∀ x ∈ ls, okR x) := Lib.hid (fun h => by have := (h _ HMEM.out).2; have h2 : x1.size ≤ 160 := this; omega)
        go_wp2
        go_ret
        exact ⟨LongP.of ls true ⟨fun _ => HB.out, fun _ => rfl⟩, hxx⟩
      have HALL2 : Hid (∀ x ∈ ls.take (k + 1), okR x) := Lib.hid (fun y hy => by
        rw [HTK.out] at hy
        rcases List.mem_append.1 hy with hy | hy
        · exact HALL.out y hy
        · rw [List.mem_singleton] at hy
          subst hy
          exact ⟨by show x0.size ≤ 48; omega, by show x1.size ≤ 160; omega⟩)
      go_wp2
      go_roundw
      case rel => exact ⟨k + 1, by omega, by go_num, HALL2, hxx⟩
      case measure => simp [intOf]; omega
    · obtain rfl : n = k := by omega
      have h1 := HALL.out
      rw [← Hn.out, List.take_length] at h1
      have HA := Lib.hid h1
      clear h1
      go_wp2
      go_ret
      exact ⟨LongP.of ls false ⟨fun h => (by cases h), fun h => absurd HA.out h⟩, hx⟩
theorem reads_uniq {b : List UInt8} {l l' : List W3} (h : Reads b l) (h' : Reads b l') (hl : l.length < 2 ^ 64) (hl' : l'.length < 2 ^ 64) : l = l' := by
  have e := h.2.1
  rw [h'.2.1] at e
  refine row_inj l l' (fun x hx => ?_) (fun x hx => ?_) hl hl' (List.cons.inj e).1.symm
  · have := h.1.short x hx
    unfold okR at this
    unfold szW
    omega
  · have := h'.1.short x hx
    unfold okR at this
    unfold szW
    omega
end Go.Proofs.Ytnggdkpaofbaaaa
