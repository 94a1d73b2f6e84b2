/- The reference's net: where one lies; its fate. -/
import Derived.Test.YthleaofgodkehaaNetLaw
namespace Go.Proofs.Ythleaofgodkehaa
open Go.RowKit
set_option linter.unusedVariables false

/-- Texts in a row of the call's own. -/
def OwnT (B : Nat) (w : World) (v : Value) (ls : List ByteArray) : Prop := w.ownsRow B 9 1 v ls.length (ls.map Value.string)
theorem OwnT.form {B : Nat} {w : World} {v : Value} {ls : List ByteArray} (h : OwnT B w v ls) : ∃ A c, v = .slice A ls.length c ∧ ls.length ≤ c ∧ c ≤ maxLen ∧ Cells w A (ls.map Value.string) := own_form h (by decide)
theorem OwnT.grown {B : Nat} {w w' : World} {v : Value} {ls : List ByteArray} (h : OwnT B w v ls) {row : Option Nat} (hg : w.grownBy w' row) (hne : v.ownBlock = none ∨ v.ownBlock ≠ row) : OwnT B w' v ls := World.ownsRow.kept h hg hne
theorem OwnT.str {B : Nat} {w : World} {v : Value} {ls : List ByteArray} (h : OwnT B w v ls) : ∀ j, v.ownBlock = some j → ∃ cur, Blk w j 9 cur := by
  intro j hj
  rcases h.2 with ⟨rfl, _⟩ | ⟨g1, cap, cur, rfl, _, hgg, _⟩
  · cases hj
  · simp only [Value.ownBlock, Option.some.injEq] at hj
    subst hj
    exact ⟨cur, hgg⟩
theorem rstr_info : (Try.prog.info? 9).map (fun i => (i.zero, i.size, i.bytes)) = some (some (.string ByteArray.empty), 1, 16) := by kernel_rfl
theorem wpList_append_t (w : World) {ops : Array Oper} {rest : List Oper} {o : Oper} {a : Act} {Q : Exit → Act → World → Prop} (hgd : o.guard = none) (s x : Operand)
    (ho : o.op = .call { callee := .builtin .append, args := #[s, x], argTypes := #[33, 33] })
    (B : Nat) (v : Value) (xs : List ByteArray) (hs : a.eval s = v) (hown : OwnT B w v xs)
    (A : Option Addr) (m c : Nat) (ys : List ByteArray) (hx : a.eval x = .slice A m c) (hm : ys.length = m) (hr : Cells w A (ys.map Value.string))
    (hlen : xs.length + m ≤ 1000000) (hbase : B ≤ w.heap.size)
    (h : ∀ v' w', OwnT B w' v' (xs ++ ys) → w.grownBy w' v.ownBlock → (v'.ownBlock = v.ownBlock ∨ v'.ownBlock = some w.heap.size) → wpList Try.prog ops Q rest (a.put o.dst v') w') : wpList Try.prog ops Q (o :: rest) a w := by
  subst hm
  refine wpList_plain hgd fun _ hK => wp_append w s x 33 ho B 9 (.string ByteArray.empty) 1 16 Try.underlying33 rstr_info rfl (by decide) v xs.length (xs.map Value.string) hs hown A ys.length c (ys.map Value.string) hx
    (by rw [List.length_map, Nat.mul_one]) hr (fun u hu => by obtain ⟨c, _, rfl⟩ := List.mem_map.1 hu; rfl) (by simp only [maxLen]; omega) (by omega) hbase fun v' w' h2 h3 h4 => hK _ _ (h v' w' ?_ h3 h4)
  unfold OwnT
  rw [List.map_append, List.length_append]
  exact h2
/-- Block m is the reference's net; r: the row of the answers that wait. -/
def RNetAt (B : Nat) (w : World) (m : Nat) (r : Option Nat) (fs : List UInt8) (ls : List ByteArray) (k : Nat) : Prop :=
  ∃ fv A c, Blk w m 35 #[fv, .slice A ls.length c, .int .i64 k] ∧ Fates w fv fs ∧ OwnT B w (.slice A ls.length c) ls ∧ (Value.slice A ls.length c).ownBlock = r
theorem rne : 5 ≠ 35 ∧ 9 ≠ 35 ∧ 54 ≠ 35 ∧ 52 ≠ 35 ∧ 38 ≠ 35 ∧ 46 ≠ 35 := by decide
theorem OwnT.ne {B : Nat} {w : World} {v : Value} {ls : List ByteArray} (h : OwnT B w v ls) {g : Nat} {T : TypeId} {cs : Array Value} (hb : Blk w g T cs) (hne : 9 ≠ T) : v.ownBlock = none ∨ v.ownBlock ≠ some g := own_ne_blk h hb hne
theorem RNetAt.turn {B : Nat} {w w' : World} {m : Nat} {r : Option Nat} {fs' : List UInt8} {ls' : List ByteArray} {fv qv fv' : Value} {A : Option Addr} {c : Nat} {z : Value} {k' : Nat}
    (hg : w.grownBy w' (some m)) (hb : Blk w m 35 #[fv, qv, z]) (hf : Fates w fv' fs') (hq : OwnT B w (.slice A ls'.length c) ls') (hr : (Value.slice A ls'.length c).ownBlock = r) (hb' : Blk w' m 35 #[fv', .slice A ls'.length c, .int .i64 k']) : RNetAt B w' m r fs' ls' k' :=
  ⟨fv', A, c, hb', hf.grown hg (fun k cur hk e => hb.ne hk (Ne.symm rne.1) (Option.some.inj e).symm), hq.grown hg (hq.ne hb rne.2.1), hr⟩
theorem RNetAt.ext {B : Nat} {w w' : World} {m k : Nat} {r : Option Nat} {fs : List UInt8} {ls : List ByteArray} (h : RNetAt B w m r fs ls k) (x : Ext w w') : RNetAt B w' m r fs ls k := by
  obtain ⟨fv, A, c, h1, h2, h3, h4⟩ := h
  exact ⟨fv, A, c, h1.ext x, h2.ext x, own_ext h3 x, h4⟩
theorem RNetAt.lt {B m k : Nat} {w : World} {r : Option Nat} {fs : List UInt8} {ls : List ByteArray} (h : RNetAt B w m r fs ls k) : m < w.heap.size ∧ ∀ j, r = some j → j < w.heap.size := by
  obtain ⟨fv, A, c, h1, h2, h3, h4⟩ := h
  exact ⟨h1.lt, fun j hj => by obtain ⟨cur, hc⟩ := h3.str j (h4.trans hj); exact hc.lt⟩
/-- A pool's Put leaves it as it is. -/
theorem RNetAt.put {B m k b : Nat} {w w' : World} {r : Option Nat} {fs : List UInt8} {ls : List ByteArray} {L : List Ent1} (h : RNetAt B w m r fs ls k) (hm : MapB w b L) (hg : w.grownBy w' (some b)) : RNetAt B w' m r fs ls k := by
  obtain ⟨fv, A, c, h1, h2, h3, h4⟩ := h
  refine ⟨fv, A, c, h1.grown hg (fun e => hm.ne_blk h1 (Option.some.inj e)), h2.grown hg (fun j cur hj e => hm.ne_blk hj (Option.some.inj e)), h3.grown hg ?_, h4⟩
  cases hv : (Value.slice A ls.length c).ownBlock with
  | none => exact .inl rfl
  | some j =>
    obtain ⟨cur, hc⟩ := h3.str j hv
    exact .inr (fun e => hm.ne_blk hc (Option.some.inj e))
/-- A net's Ask leaves the reference's net as it is. -/
theorem RNetAt.two {B B' m n k k' : Nat} {w w' : World} {r q : Option Nat} {fs fs' : List UInt8} {ls ls' : List ByteArray} (h : RNetAt B w m r fs ls k) (h' : NetAt B' w n q fs' ls' k') (t : Two w w' n q) (hap : Apart r q) : RNetAt B w' m r fs ls k := by
  obtain ⟨fv, A, c, h1, h2, h3, h4⟩ := h
  obtain ⟨fv', qv', hb', hf', hq'⟩ := h'
  refine ⟨fv, A, c, t.blk h1 (h1.ne hb' (Ne.symm rne.2.2.1)) (fun e => by obtain ⟨cur, hc⟩ := hq'.str m e.symm; exact h1.ne hc (Ne.symm rne.2.1) rfl), h2.same (fun j cur hj => t.block j hj.lt (hj.ne hb' ne_types.1.1) (fates_ne hq' j cur hj)), ?_, h4⟩
  refine ⟨h3.1, ?_⟩
  rcases h3.2 with hn | ⟨g, cap, cur, e, hb, hgg, rest⟩
  · exact .inl hn
  · have hj : (Value.slice A ls.length c).ownBlock = some g := by rw [e]; rfl
    have hgb : Blk w g 9 cur := hgg
    exact .inr ⟨g, cap, cur, e, hb, (t.block g hgb.lt (hgb.ne hb' ne_types.1.2.1) (hap g (h4.symm.trans hj))).trans hgg, rest⟩
/-- The reference's Ask leaves a net as it is. -/
theorem NetAt.rgrown {B B' m n k k' : Nat} {w w' : World} {r q : Option Nat} {fs fs' : List UInt8} {ls ls' : List ByteArray} (h : NetAt B w n q fs ls k) (h' : RNetAt B' w m r fs' ls' k') (hg : w.grownBy w' (some m)) : NetAt B w' n q fs ls k := by
  obtain ⟨fv, qv, hb, hf, hq⟩ := h
  obtain ⟨fv', A, c, h1, h2, h3, h4⟩ := h'
  exact ⟨fv, qv, hb.grown hg (fun e => hb.ne h1 rne.2.2.1 (Option.some.inj e)), hf.grown hg (fun j cur hj e => hj.ne h1 rne.1 (Option.some.inj e)), hq.grown hg (fun j hj e => by obtain ⟨cur, hc⟩ := hq.str j hj; exact hc.ne h1 rne.2.1 (Option.some.inj e))⟩
theorem PoolAt.rgrown {B' m k' gp b : Nat} {w w' : World} {r : Option Nat} {fs' : List UInt8} {ls' : List ByteArray} {L : List Ent1} (h : PoolAt w gp b L) (h' : RNetAt B' w m r fs' ls' k') (hg : w.grownBy w' (some m)) : PoolAt w' gp b L := by
  obtain ⟨fv', A, c, h1, h2, h3, h4⟩ := h'
  exact h.past hg (fun e => h.blk.ne h1 rne.2.2.2.1 (Option.some.inj e)) (fun e => h.map.ne_blk h1 (Option.some.inj e).symm)

set_option maxRecDepth 50000 in
theorem rfate_calls (B m : Nat) (r : Option Nat) (fs : List UInt8) (ls : List ByteArray) (k : Nat) (w : World) (h : RNetAt B w m r fs ls k) :
    Calls Try.prog 20 #[.pointer (some ⟨m, 0, none⟩)] w fun e w' => e = .returned (.int .i64 (fs.headD 0).toNat) ∧ RNetAt B w' m r fs.tail ls k ∧ w.grownBy w' (some m) := by
  obtain ⟨fv, A1, c1, hb, ⟨A, c, rfl, hl, hc, hA⟩, hq, hr⟩ := id h
  have c0 : w.cell? ⟨m, 0, none⟩ = some (.slice A fs.length c) := by rw [hb.cell]; rfl
  have f0 := hb.frozen 0
  cases fs with
  | nil =>
    go_enter Try.func20, Try.ntmps20
    go_wp2
    go_ret
    exact ⟨rfl, h, World.grownBy.refl _ _⟩
  | cons f fs =>
    obtain ⟨x, rfl, hx⟩ := hc.byte (i := 0) (by simp)
    rw [add_zero] at hx
    go_enter Try.func20, Try.ntmps20
    go_wp2_with (first
      | (refine wpList_slice_from rfl 22 5 (.tmp 21) (.const (.int .i64 1)) rfl Try.underlying22 1 nsize_u8 (some x) (fs.length + 1) c 1 .i64 rfl rfl (by omega) hl hc (by rw [bv_length, Nat.mul_one]; rfl) ?_; intro A' hA' hS'))
    go_ret
    rw [Nat.mul_one] at hA'
    have hg := grown_set w m 0 (.slice A' fs.length (c - 1))
    have hl' : fs.length + 1 ≤ c := hl
    have hf256 := UInt8.toNat_lt f
    exact ⟨show Ending.returned (.int .i64 (wrap64 (f.toNat : Int))) = _ from ret_int (by show wrap64 (f.toNat : Int) = (f.toNat : Int); unfold wrap64; omega), RNetAt.turn hg hb (fates_tail hA hS' hA' (by show fs.length ≤ c - 1; omega) rfl) hq hr (hb.set 0 _), hg⟩
end Go.Proofs.Ythleaofgodkehaa
