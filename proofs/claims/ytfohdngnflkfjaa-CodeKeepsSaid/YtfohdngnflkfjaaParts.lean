/- Parts: a row of structs, its reading, and how one is loaded. -/
import Derived.Test.YtfohdngnflkfjaaCodeLaw
import Derived.Test.YtfohdngnflkfjaaOpen
import Derived.Deep.MidRow
namespace Go.Proofs.Ytfohdngnflkfjaa
open Go.RowKit
set_option linter.unusedVariables false

structure Pt where
  k : Int
  u : Nat
  n : Int
  s : ByteArray
  lo : Int
  hi : Int

def Pt.cs (p : Pt) : List Value := [.int .i64 p.k, .int .u64 p.u, .int .i64 p.n, .string p.s, .int .i64 p.lo, .int .i64 p.hi]
structure Pt.Ok (p : Pt) : Prop where
  u1 : p.u < 18446744073709551616
  n0 : -9223372036854775808 ≤ p.n
  n1 : p.n ≤ 9223372036854775807
  s1 : p.s.size ≤ 140737488351232
  lo0 : -9223372036854775808 ≤ p.lo
  lo1 : p.lo ≤ 9223372036854775807
  hi0 : -9223372036854775808 ≤ p.hi
  hi1 : p.hi ≤ 9223372036854775807

def Pts (w : World) (a : Option Addr) (xs : List Pt) : Prop :=
  ∀ i p, xs[i]? = some p → p.Ok ∧ ∃ x, a = some x ∧ ∀ j v, p.cs[j]? = some v → w.cell? ((x.add (i * 6)).add j) = some v
theorem Pts.ext {w w' : World} {a : Option Addr} {xs : List Pt} (h : Pts w a xs) (k : Ext w w') : Pts w' a xs :=
  fun i p hp => let ⟨ho, x, hx, hc⟩ := h i p hp; ⟨ho, x, hx, fun j v hv => k.cell (hc j v hv)⟩
theorem Pts.get {w : World} {a : Option Addr} {xs : List Pt} (h : Pts w a xs) {i : Nat} (hi : i < xs.length) :
    xs[i].Ok ∧ ∃ x, a = some x ∧ ∀ j v, xs[i].cs[j]? = some v → w.cell? ((x.add (i * 6)).add j) = some v := h i _ (List.getElem?_eq_getElem hi)

section
variable {P : Program}
theorem run_loadVar_cells (w : World) (ad : Addr) (ty : TypeId) (cs : List Value) (d : TypeDesc) (hc : ∀ j v, cs[j]? = some v → w.cell? (ad.add j) = some v)
    (hu : P.underlying ty = some d) (hd : d.isRow = true) (hi : (P.info? ty).map (·.size) = some cs.length) :
    (loadVar ty ad).run P w = .ok (.agg cs.toArray) w := by
  have hl : (loadCells ad cs.length).run P w = .ok cs.toArray w := run_loadCells_list (P := P) w ad cs hc
  cases hq : P.info? ty with
  | none => simp [hq] at hi
  | some i =>
    have hs : i.size = cs.length := by simpa [hq] using hi
    have hagg : (isAgg ty).run P w = .ok true w := by
      unfold isAgg
      rw [Sem.run_bind, run_underlying hu w]
      cases d <;> simp_all
    simp [loadVar, Sem.run_bind, hagg, sizeOf, typeInfo, hq, hs, hl]

theorem wp_load_cells {op : Oper} {a : Act} {w : World} {K : Act → World → Prop} {Q : Exit → Act → World → Prop} (ty : TypeId) (x : Operand) (ho : op.op = .load ty x)
    (ad : Addr) (hx : a.eval x = .pointer (some ad)) (cs : List Value) (d : TypeDesc) (hc : ∀ j v, cs[j]? = some v → w.cell? (ad.add j) = some v)
    (hu : P.underlying ty = some d) (hd : d.isRow = true) (hi : (P.info? ty).map (·.size) = some cs.length)
    (h : K (a.put op.dst (.agg cs.toArray)) w) : op.wp P a w K Q := by
  unfold Oper.wp execOp
  simp only [ho, hx, Instr.loadAt, Instr.sureAddr, Sem.run_bind, Sem.run_pure, Result.andThen_ok, run_loadVar_cells w ad ty cs d hc hu hd hi]
  exact h
theorem wpList_load_cells {ops : Array Oper} {rest : List Oper} {op : Oper} {a : Act} {w : World} {Q : Exit → Act → World → Prop} (hgd : op.guard = none) (ty : TypeId) (x : Operand) (ho : op.op = .load ty x)
    (ad : Addr) (hx : a.eval x = .pointer (some ad)) (cs : List Value) (d : TypeDesc) (hc : ∀ j v, cs[j]? = some v → w.cell? (ad.add j) = some v)
    (hu : P.underlying ty = some d) (hd : d.isRow = true) (hi : (P.info? ty).map (·.size) = some cs.length)
    (h : wpList P ops Q rest (a.put op.dst (.agg cs.toArray)) w) : wpList P ops Q (op :: rest) a w :=
  wpList_plain hgd fun _ hK => wp_load_cells ty x ho ad hx cs d hc hu hd hi (hK _ _ h)
end

theorem pt_info : (Try.prog.info? 48).map (·.size) = some 6 := by kernel_rfl
theorem Pt.one (p : Pt) : ∀ v ∈ p.cs, v.oneCell' = true := by
  intro v hv
  simp only [Pt.cs, List.mem_cons, List.not_mem_nil, or_false] at hv
  rcases hv with rfl | rfl | rfl | rfl | rfl | rfl <;> rfl

def tot (xs : List Pt) : Nat := (xs.map (·.s.size)).sum
theorem tot_take (xs : List Pt) (k : Nat) (h : k < xs.length) : tot (xs.take (k + 1)) = tot (xs.take k) + xs[k].s.size := by
  unfold tot
  rw [List.take_succ_eq_append_getElem h, List.map_append, List.sum_append]
  simp only [List.map_cons, List.map_nil, List.sum_cons, List.sum_nil, Nat.add_zero]
theorem tot_take_le (xs : List Pt) (k : Nat) : tot (xs.take k) ≤ tot xs := by
  conv => rhs; rw [← List.take_append_drop k xs]
  unfold tot
  rw [List.map_append, List.sum_append]
  omega

theorem pt_s {w : World} {g : Nat} {t : TypeId} {q : Pt} (h : Blk w g t q.cs.toArray) : w.cell? ⟨g, 3, none⟩ = some (.string q.s) := by rw [h.cell]; rfl
theorem great_calls (A : Option Addr) (n c : Nat) (xs : List Pt) (w : World) (h : Pts w A xs) (hn : xs.length = n) (hl : n ≤ 140737488351232) :
    Calls Try.prog 19 #[.slice A n c] w fun e w' => e = .returned (.bool (decide (16384 < tot xs) || decide (200 < n))) ∧ Ext w w' := by
  subst hn
  go_enter Try.func19, Try.ntmps19
  go_wp2
  go_loopg [3, 8] (xs.length) (fun r v i wr => ∃ k : Nat, i = .int .i64 k ∧ v = .int .i64 (tot (xs.take k)) ∧ k + r = xs.length ∧ tot (xs.take k) ≤ 16384 ∧ Ext w wr)
  case atStart => exact ⟨0, rfl, rfl, by omega, by simp [tot], Ext.refl _⟩
  case round =>
    obtain ⟨k, rfl, rfl, hk, ht, hx⟩ := hrel
    by_cases hlt : k < xs.length
    · obtain ⟨x, rfl, hc⟩ := (h.get hlt).2
      have hc' : ∀ j v, xs[k].cs[j]? = some v → wr.cell? ((x.add (k * 6)).add j) = some v := fun j v hv => hx.cell (hc j v hv)
      have hsz := (h.get hlt).1.s1
      obtain ⟨q, hq⟩ : ∃ q, q = xs[k] := ⟨_, rfl⟩
      have htk := tot_take xs k hlt
      have htl := tot_take_le xs (k + 1)
      rw [← hq] at hc' htk hsz
      have HQ := Lib.hid hq
      have hyes : 16384 < tot (xs.take k) + q.s.size → (decide (16384 < tot xs) || decide (200 < xs.length)) = true := fun h => by
        rw [decide_eq_true (show 16384 < tot xs by omega)]; rfl
      have HY := Lib.hid hyes
      have HT := Lib.hid htk
      clear hq htk htl hyes
      have hz : Ext w (wr.alloc (.cells #[.int .i64 0, .int .u64 0, .int .i64 0, .string ⟨#[]⟩, .int .i64 0, .int .i64 0] 48)) := hx.alloc _
      by_cases hgr : 16384 < tot (xs.take k) + q.s.size
      · go_wp2_with (first
          | (refine wpList_load_cells rfl 48 (.tmp 10) rfl (x.add (k * 6)) rfl q.cs _ hc' Try.underlying48 rfl pt_info ?_)
          | (refine wpList_store_blk rfl 48 (.tmp 5) (.tmp 11) rfl rfl wr.heap.size q.cs.toArray rfl rfl _ _ (Blk.new wr _ _) rfl (by kernel_rfl) ?_ ?_; (exact q.one); intro w3 hb3 hg3; have hx3 := hz.grown_ hg3 (by intro j hj; cases hj; exact hx.size); have h3 := pt_s hb3))
        go_ret
        exact ⟨ret_bool (HY.out hgr).symm, hx3⟩
      · obtain ⟨r, rfl⟩ : ∃ r, gk = r + 1 := ⟨gk - 1, by omega⟩
        go_wp2_with (first
          | (refine wpList_load_cells rfl 48 (.tmp 10) rfl (x.add (k * 6)) rfl q.cs _ hc' Try.underlying48 rfl pt_info ?_)
          | (refine wpList_store_blk rfl 48 (.tmp 5) (.tmp 11) rfl rfl wr.heap.size q.cs.toArray rfl rfl _ _ (Blk.new wr _ _) rfl (by kernel_rfl) ?_ ?_; (exact q.one); intro w3 hb3 hg3; have hx3 := hz.grown_ hg3 (by intro j hj; cases hj; exact hx.size); have h3 := pt_s hb3))
        go_roundg r
        case measure => omega
        case rel => exact ⟨k + 1, by go_num, by rw [HT.out]; go_num, by omega, by rw [HT.out]; omega, hx3⟩
    · obtain rfl : k = xs.length := by omega
      rw [List.take_length] at ht ⊢
      have hd : decide (16384 < tot xs) = false := decide_eq_false (by omega)
      go_wp2
      go_ret
      refine ⟨ret_bool ?_, hx⟩
      rw [hd, Bool.false_or]
      exact decide_eq_decide.2 (by omega)
end Go.Proofs.Ytfohdngnflkfjaa
