/- Kids compared. -/
import Derived.Test.YthepbcomeimcnaaObjSame
namespace Go.Proofs.Ythepbcomeimcnaa
open Go.RowKit
set_option linter.unusedVariables false

theorem kid_held : Try.prog.stoodInHeld 59 = false := by kernel_rfl
theorem kid_under : Try.prog.underlying 59 = some (.struct (Try.prog.fieldsOf 59)) := by
  unfold Program.fieldsOf
  rw [Try.underlying59]
theorem kid_fields : (Try.prog.fieldsOf 59).toList.map (fun f => (f.name == "_", f.type, f.offset)) = [(false, 9, 0), (false, 28, 1)] := by kernel_rfl
theorem size_id (w : World) : (sizeOf 28).run Try.prog w = .ok 33 w := by go_simp
/-- A kid is itself. -/
theorem kid_equal_d (d : Nat) (p : Kd) (hp : p.2.length = 33) (w : World) : (Op.equalIn (d + 4) 59 (.agg (kdC p).toArray) (.agg (kdC p).toArray)).run Try.prog w = .ok true w := by
  rw [run_equalIn_struct w (d + 3) 59 _ _ kid_under kid_held]
  have hf := kid_fields
  generalize (Try.prog.fieldsOf 59).toList = l at hf ⊢
  have h := congrArg List.length hf
  rw [List.length_map] at h
  rcases l with _ | ⟨f0, _ | ⟨f1, _ | ⟨f2, l⟩⟩⟩
  · cases h
  · cases h
  · simp only [List.map_cons, List.map_nil, List.cons.injEq, Prod.mk.injEq, and_true, beq_eq_false_iff_ne, ne_eq] at hf
    obtain ⟨⟨n0, t0, o0⟩, ⟨n1, t1, o1⟩⟩ := hf
    have p0 : (part 9 (kdC p).toArray 0).run Try.prog w = .ok (.string p.1) w := by
      simp [part, isAgg, run_underlying Try.underlying9, kdC]
    have p1 : (part 28 (kdC p).toArray 1).run Try.prog w = .ok (.agg (bv p.2).toArray) w := by
      have e : (kdC p).toArray.extract 1 (1 + 33) = (bv p.2).toArray := by
        apply Array.ext'
        rw [Array.toList_extract, List.toList_toArray, List.toList_toArray, List.extract_eq_drop_take']
        show ((Value.string p.1 :: bv p.2).take 34).drop 1 = bv p.2
        rw [List.take_succ_cons, List.drop_succ_cons, List.drop_zero, List.take_of_length_le (by rw [bv_len]; omega)]
      have hsz := size_id w
      simp only [part, isAgg, Sem.run_bind, run_underlying Try.underlying28, Result.andThen_ok, Sem.run_pure, if_true, hsz, e]
    have h0 := run_equalIn_string (P := Try.prog) w (d + 2) 9 p.1 p.1 Try.underlying9
    have h1 := id_equal_d d p.2 p.2 hp hp w
    rw [beq_self_eq_true] at h0 h1
    simp only [Op.eqFields, ne_eq, n0, n1, not_false_eq_true, if_true, t0, t1, o0, o1, Sem.run_bind, p0, h0, Result.andThen_ok]
    rw [if_neg (by decide), Sem.run_bind, p1, Result.andThen_ok, Sem.run_bind, p1, Result.andThen_ok, Sem.run_bind, h1, Result.andThen_ok, if_neg (by decide), Sem.run_pure]
  · simp at h
theorem kid_equal (p : Kd) (hp : p.2.length = 33) (w : World) : (Op.equalIn 10000 59 (.agg (kdC p).toArray) (.agg (kdC p).toArray)).run Try.prog w = .ok true w := kid_equal_d 9996 p hp w
end Go.Proofs.Ythepbcomeimcnaa
