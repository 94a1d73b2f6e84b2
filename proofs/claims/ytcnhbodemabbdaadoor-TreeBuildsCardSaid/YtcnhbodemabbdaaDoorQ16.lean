/- Names compared; a name in memory. -/
import Derived.Test.YtcnhbodemabbdaaDoorQ09
import Derived.Test.YtcnhbodemabbdaaDoorQ13
import Derived.Stop.BytesEq
namespace Go.Proofs.YtcnhbodemabbdaaDoor
open Go.RowKit
set_option linter.unusedVariables false

/-- A name as the model's value. -/
def idv (b : List UInt8) : Value := .agg (bv b).toArray
theorem size_u8 (w : World) : (sizeOf 5).run Tryd.prog w = .ok 1 w := by go_simp
theorem id_held : Tryd.prog.stoodInHeld 27 = false := by kernel_rfl
theorem id_under : Tryd.prog.underlying 27 = some (.struct (Tryd.prog.fieldsOf 27)) := by
  unfold Program.fieldsOf
  rw [Tryd.underlying27]
theorem id_fields : (Tryd.prog.fieldsOf 27).toList.map (fun f => (f.name, f.type, f.offset)) = [("Kind", 5, 0), ("Sum", 25, 1)] := by kernel_rfl
theorem size_sum (w : World) : (sizeOf 25).run Tryd.prog w = .ok 32 w := by go_simp
theorem kind_name {f : Field} (n0 : f.name = "Kind") : ¬ f.name = "_" := by rw [n0]; decide
theorem sum_name {f : Field} (n0 : f.name = "Sum") : ¬ f.name = "_" := by rw [n0]; decide
theorem two_fields {l : List Field} (hf : l.map (fun f => (f.name, f.type, f.offset)) = [("Kind", 5, 0), ("Sum", 25, 1)]) : ∃ f0 f1, l = [f0, f1] := by
  have h := congrArg List.length hf
  rw [List.length_map] at h
  rcases l with _ | ⟨f0, _ | ⟨f1, _ | ⟨f2, l⟩⟩⟩
  · cases h
  · cases h
  · exact ⟨f0, f1, rfl⟩
  · simp at h
theorem id_equal_d (d : Nat) (a b : List UInt8) (ha : a.length = 33) (hb : b.length = 33) (w : World) : (Op.equalIn (d + 3) 27 (.agg (bv a).toArray) (.agg (bv b).toArray)).run Tryd.prog w = .ok (a == b) w := by
  obtain ⟨x, xs, rfl⟩ : ∃ x xs, a = x :: xs := by cases a with | nil => cases ha | cons x xs => exact ⟨x, xs, rfl⟩
  obtain ⟨y, ys, rfl⟩ : ∃ y ys, b = y :: ys := by cases b with | nil => cases hb | cons y ys => exact ⟨y, ys, rfl⟩
  have hxs : xs.length = 32 := by simpa using ha
  have hys : ys.length = 32 := by simpa using hb
  have h2 := run_equalIn_bytes (P := Tryd.prog) w d 25 5 32 Tryd.underlying25 Tryd.underlying5 size_u8 xs ys hxs hys
  have px : ∀ (z : UInt8) (zs : List UInt8), zs.length = 32 → (part 25 (bv (z :: zs)).toArray 1).run Tryd.prog w = .ok (.agg (zs.map Extern.Stop.cell).toArray) w := by
    intro z zs hz
    have e : (bv (z :: zs)).toArray.extract 1 (1 + 32) = (zs.map Extern.Stop.cell).toArray := by
      apply Array.ext'
      rw [Array.toList_extract, List.toList_toArray, List.toList_toArray, List.extract_eq_drop_take']
      show ((Value.int .u8 z.toNat :: bv zs).take 33).drop 1 = zs.map Extern.Stop.cell
      rw [List.take_succ_cons, List.drop_succ_cons, List.drop_zero, List.take_of_length_le (by rw [bv_length]; omega)]
      rfl
    have hsz := size_sum w
    simp only [part, isAgg, Sem.run_bind, run_underlying Tryd.underlying25, Result.andThen_ok, Sem.run_pure, if_true, hsz, e]
  have p0 : ∀ (z : UInt8) (zs : List UInt8), (part 5 (bv (z :: zs)).toArray 0).run Tryd.prog w = .ok (.int .u8 z.toNat) w := by
    intro z zs
    simp [part, isAgg, run_underlying Tryd.underlying5, bv]
  have hn : ((x.toNat : Int) == (y.toNat : Int)) = (x == y) := by
    rw [Bool.eq_iff_iff]
    simp [← UInt8.toNat_inj]
    omega
  rw [run_equalIn_struct w (d + 2) 27 _ _ id_under id_held]
  have hf := id_fields
  generalize (Tryd.prog.fieldsOf 27).toList = l at hf ⊢
  obtain ⟨f0, f1, rfl⟩ := two_fields hf
  · simp only [List.map_cons, List.map_nil, List.cons.injEq, Prod.mk.injEq, and_true] at hf
    obtain ⟨⟨n0, t0, o0⟩, ⟨n1, t1, o1⟩⟩ := hf
    have k0 : ¬ f0.name = "_" := kind_name n0
    have k1 : ¬ f1.name = "_" := sum_name n1
    have hi := run_equalIn_int (P := Tryd.prog) w (d + 1) 5 .u8 .u8 (x.toNat : Int) (y.toNat : Int) Tryd.underlying5
    simp only [Op.eqFields, ne_eq, k0, k1, not_false_eq_true, if_true, t0, t1, o0, o1, Sem.run_bind, p0, hi, hn, Result.andThen_ok]
    have q1 := px x xs hxs
    have q2 := px y ys hys
    rw [List.cons_beq_cons]
    generalize (x == y) = z
    cases z
    · rw [if_pos (by decide), Sem.run_pure, Bool.false_and]
    · rw [if_neg (by decide), Sem.run_bind, q1, Result.andThen_ok, Sem.run_bind, q2, Result.andThen_ok, Sem.run_bind, h2, Result.andThen_ok, Bool.true_and]
      generalize (xs == ys) = z
      cases z
      · rw [if_pos (by decide), Sem.run_pure]
      · rw [if_neg (by decide), Sem.run_pure]
theorem id_equal (a b : List UInt8) (ha : a.length = 33) (hb : b.length = 33) (w : World) : (Op.equalIn 10000 27 (.agg (bv a).toArray) (.agg (bv b).toArray)).run Tryd.prog w = .ok (a == b) w := id_equal_d 9997 a b ha hb w
theorem str_beq (a b : List UInt8) : ((bstr a).toList == (bstr b).toList) = decide (a = b) := by
  rw [ByteArray.toList_eq, ByteArray.toList_eq, bstr_data, bstr_data]
  by_cases h : a = b
  · rw [decide_eq_true h, beq_iff_eq]; exact h
  · rw [decide_eq_false h, beq_eq_false_iff_ne]; exact h
theorem str_beq_ne {a b : List UInt8} (h : a ≠ b) : ((bstr a).toList == (bstr b).toList) = false := by rw [str_beq, decide_eq_false h]
theorem str_beq_eq (a : List UInt8) : ((bstr a).toList == (bstr a).toList) = true := by rw [str_beq, decide_eq_true rfl]
theorem id_info : (Tryd.prog.info? 27).map (·.size) = some 33 := by kernel_rfl
section
variable (w : World) (p : Addr)
theorem f_id0 : (Instr.fieldAt 27 (.pointer (some p)) 0).run Tryd.prog w = .ok (.pointer (some p)) w := by go_simp
end
section
variable {w : World} {p : Addr}
theorem ld_id {b : List UInt8} (hb : b.length = 33) (h : Cells w (some p) (bv b)) : (Instr.loadAt 27 (.pointer (some p))).run Tryd.prog w = .ok (.agg (bv b).toArray) w :=
  run_loadAt_row w p 27 (bv b) _ (fun j v hv => by obtain ⟨x, hx, hc⟩ := h j v hv; cases hx; exact hc) Tryd.underlying27 rfl (by rw [id_info, bv_length, hb])
theorem ld_ids {a : Option Addr} {n c : Nat} (h : w.cell? p = some (.slice a n c)) : (Instr.loadAt 37 (.pointer (some p))).run Tryd.prog w = .ok (.slice a n c) w := by go_simp
theorem ix_id {a : Addr} {n c i : Nat} {z : Int} (hz : z = (i : Int)) (h : i < n) : (Instr.indexAt 37 (.slice (some a) n c) (.int .i64 z)).run Tryd.prog w = .ok (.pointer (some (a.add (i * 33)))) w := by
  subst hz
  have h1 : (0 : Int) ≤ (i : Int) := by omega
  have h2 : (i : Int) < (n : Int) := by omega
  go_simp
end
end Go.Proofs.YtcnhbodemabbdaaDoor
