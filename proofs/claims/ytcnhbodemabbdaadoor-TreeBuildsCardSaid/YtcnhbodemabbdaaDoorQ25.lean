/- A map keyed by names (api.Id), with texts for elements: looked up and written, as a list of entries. -/
import Derived.Test.YtcnhbodemabbdaaDoorQ16
import Derived.WideKeyRuns
import Derived.DeepKeys3
namespace Go.Proofs.YtcnhbodemabbdaaDoor
open Go.RowKit
set_option linter.unusedVariables false

theorem id_wide : (match Tryd.prog.underlying 27 with | some (.array _ _) | some (.struct _) => true | _ => false) = true := by kernel_rfl
/-- The entries: names and texts. -/
abbrev Ent1 := List UInt8 × ByteArray
def entsOf (L : List Ent1) (es : List MapEntry) : Prop := es.map (fun e => (e.key, e.val)) = L.map (fun p => (Value.agg (bv p.1).toArray, Value.string p.2))
def fIx (x : List UInt8) : List Ent1 → Nat → Option (Nat × Value)
  | [], _ => none
  | p :: L, i => if x == p.1 then some (i, .string p.2) else fIx x L (i + 1)
theorem run_findAsking (w : World) (x : List UInt8) (hx : x.length = 33) : ∀ (L : List Ent1) (es : List MapEntry) (i : Nat), entsOf L es → (∀ p ∈ L, p.1.length = 33) →
    (Instr.findAsking 27 (.agg (bv x).toArray) es i).run Tryd.prog w = .ok (fIx x L i) w
  | [], es, i, he, _ => by
    have : es = [] := by unfold entsOf at he; simpa using he
    subst this
    simp [Instr.findAsking, fIx]
  | p :: L, [], i, he, _ => by unfold entsOf at he; simp at he
  | p :: L, e :: es, i, he, hl => by
    unfold entsOf at he
    simp only [List.map_cons, List.cons.injEq, Prod.mk.injEq] at he
    obtain ⟨⟨hk, hv⟩, hr⟩ := he
    have hq := id_equal x p.1 hx (hl p (List.mem_cons_self ..)) w
    have ih := run_findAsking w x hx L es (i + 1) hr (fun q hq => hl q (List.mem_cons_of_mem _ hq))
    have hq' : (Op.equal 27 (.agg (bv x).toArray) e.key).run Tryd.prog w = .ok (x == p.1) w := by rw [hk]; exact hq
    unfold Instr.findAsking fIx
    rw [Sem.run_bind, hq', Result.andThen_ok]
    cases hb : (x == p.1) with
    | true => simp [hv]
    | false => simpa using ih
set_option maxRecDepth 50000 in
theorem run_findKey_id (w : World) (x : List UInt8) (hx : x.length = 33) (L : List Ent1) (es : List MapEntry) (he : entsOf L es) (hl : ∀ p ∈ L, p.1.length = 33) :
    (Instr.findKey 27 (.agg (bv x).toArray) es).run Tryd.prog w = .ok (fIx x L 0) w := by
  rw [run_findKey_eq w id_wide]
  exact run_findAsking w x hx L es 0 he hl
theorem keyLits_u8 (d : Nat) (b : UInt8) : Tryd.prog.keyLits (d + 1) 5 [.int .u8 b.toNat] = some [.int .u8 b.toNat] := by
  have hw : (Lit.int IntKind.u8 (b.toNat : Int)).wf = true := by
    have := b.toNat_lt
    have h1 : IntKind.u8.min = 0 := rfl
    have h2 : IntKind.u8.max = 255 := rfl
    simp [Lit.wf, h1, h2]
    omega
  unfold Program.keyLits
  rw [Tryd.underlying5]
  simp [hw]
theorem mapM_some {α β : Type} {f : α → Option β} : ∀ (l : List α), (∀ x ∈ l, ∃ y, f x = some y) → ∃ ys, l.mapM f = some ys
  | [], _ => ⟨[], by simp⟩
  | a :: l, h => by
    obtain ⟨y, hy⟩ := h a (List.mem_cons_self ..)
    obtain ⟨ys, hys⟩ := mapM_some l (fun x hx => h x (List.mem_cons_of_mem _ hx))
    exact ⟨y :: ys, by simp [List.mapM_cons, hy, hys]⟩
theorem cells_u8 : Tryd.prog.cellsOf 5 = 1 := by kernel_rfl
theorem cells_arr : Tryd.prog.cellsOf 25 = 32 := by kernel_rfl
theorem cells_id : Tryd.prog.cellsOf 27 = 33 := by kernel_rfl
theorem keyLits_arr (d : Nat) (bs : List UInt8) (h : bs.length = 32) : ∃ la, Tryd.prog.keyLits (d + 2) 25 (bv bs) = some la := by
  obtain ⟨ys, hys⟩ := mapM_some (f := fun i => Tryd.prog.keyLits (d + 1) 5 (((bv bs).drop (i * Tryd.prog.cellsOf 5)).take (Tryd.prog.cellsOf 5))) (List.range 32) (fun i hi => by
    rw [List.mem_range] at hi
    rw [cells_u8, Nat.mul_one]
    have e : ((bv bs).drop i).take 1 = [.int .u8 (bs[i]'(by omega)).toNat] := by
      have hl : i < (bv bs).length := by rw [bv_length, h]; exact hi
      rw [List.drop_eq_getElem_cons hl]
      simp [bv]
    rw [e]
    exact ⟨_, keyLits_u8 d _⟩)
  unfold Program.keyLits
  rw [Tryd.underlying25]
  simp only
  rw [if_pos (by rw [bv_length, h, cells_arr]), hys]
  exact ⟨_, rfl⟩
theorem keyLits_id (d : Nat) (x : List UInt8) (hx : x.length = 33) : ∃ la, Tryd.prog.keyLits (d + 3) 27 (bv x) = some la := by
  obtain ⟨k, l, rfl⟩ : ∃ k l, x = k :: l := by cases x with | nil => cases hx | cons k l => exact ⟨k, l, rfl⟩
  have hl : l.length = 32 := by simpa using hx
  obtain ⟨la, hla⟩ := keyLits_arr d l hl
  have h1 := keyLits_u8 (d + 1) k
  unfold Program.keyLits
  rw [id_under]
  have hf := id_fields
  generalize Tryd.prog.fieldsOf 27 = F at hf ⊢
  obtain ⟨F⟩ := F
  simp only at hf
  have hlen := congrArg List.length hf
  rw [List.length_map] at hlen
  rcases F with _ | ⟨f0, _ | ⟨f1, _ | ⟨f2, F⟩⟩⟩
  · cases hlen
  · cases hlen
  · simp only [List.map_cons, List.map_nil, List.cons.injEq, Prod.mk.injEq, and_true] at hf
    obtain ⟨⟨n0, t0, o0⟩, ⟨n1, t1, o1⟩⟩ := hf
    simp only
    rw [if_pos ⟨by rw [bv_length, hx, cells_id], by simp [n0, n1]⟩]
    have e0 : ((bv (k :: l)).drop 0).take 1 = [.int .u8 k.toNat] := rfl
    have e1 : ((bv (k :: l)).drop 1).take 32 = bv l := by
      show ((bv l)).take 32 = bv l
      exact List.take_of_length_le (by rw [bv_length, hl]; exact Nat.le_refl _)
    simp only [List.mapM_cons, List.mapM_nil, t0, o0, t1, o1, cells_u8, cells_arr, e0, e1, h1, hla]
    exact ⟨_, rfl⟩
  · simp at hlen
theorem run_checkKey_id (w : World) (em : Bool) (x : List UInt8) (hx : x.length = 33) : (Instr.checkKey em 10000 27 (.agg (bv x).toArray)).run Tryd.prog w = .ok () w := by
  obtain ⟨la, hla⟩ := keyLits_id 0 x hx
  refine run_checkKey_deep em 9997 3 27 (by kernel_rfl) w 3 _ la ?_ ?_
  · unfold Value.formed
    rw [id_under]
    simp only
    rw [List.size_toArray, bv_length, hx, cells_id]
    rfl
  · show Tryd.prog.keyLits 3 27 (bv x).toArray.toList = some la
    rw [List.toList_toArray]
    exact hla
/-- Block b is a map of these entries. -/
def MapB (w : World) (b : Nat) (L : List Ent1) : Prop := ∃ es clock, w.heap[b]? = some (.map es clock) ∧ entsOf L es.toList
theorem MapB.lt {w : World} {b : Nat} {L : List Ent1} (h : MapB w b L) : b < w.heap.size := by
  obtain ⟨es, c, h1, _⟩ := h
  exact (Array.getElem?_eq_some_iff.1 h1).1
theorem MapB.ext {w w' : World} {b : Nat} {L : List Ent1} (h : MapB w b L) (k : Ext w w') : MapB w' b L := by
  have hl := h.lt
  obtain ⟨es, c, h1, h2⟩ := h
  exact ⟨es, c, (k.block b hl).trans h1, h2⟩
theorem MapB.grown {w w' : World} {b : Nat} {L : List Ent1} (h : MapB w b L) {row : Option Nat} (hg : w.grownBy w' row) (hne : some b ≠ row) : MapB w' b L := by
  have hl := h.lt
  obtain ⟨es, c, h1, h2⟩ := h
  exact ⟨es, c, (hg.block b hl hne).trans h1, h2⟩
theorem MapB.new (w : World) : MapB (w.alloc (.map #[] 0)) w.heap.size [] := ⟨#[], 0, heap_alloc_new w _, rfl⟩
/-- What stands at a name. -/
def at1 (x : List UInt8) (L : List Ent1) : Option ByteArray := (L.find? (fun p => x == p.1)).map (·.2)
def put1 (x : List UInt8) (s : ByteArray) : List Ent1 → List Ent1
  | [] => [(x, s)]
  | p :: L => if x == p.1 then (x, s) :: L else p :: put1 x s L
theorem fIx_at (x : List UInt8) : ∀ (L : List Ent1) (i : Nat), (fIx x L i).map (·.2) = (at1 x L).map Value.string
  | [], _ => rfl
  | p :: L, i => by
    unfold fIx at1
    cases hb : (x == p.1) with
    | true => simp [hb]
    | false =>
      simp only [List.find?_cons, hb]
      exact fIx_at x L (i + 1)
theorem at1_put (x y : List UInt8) (s : ByteArray) : ∀ L : List Ent1, at1 y (put1 x s L) = if y == x then some s else at1 y L
  | [] => by
    unfold put1 at1
    simp only [List.find?_cons, List.find?_nil]
    cases hb : (y == x) <;> simp
  | p :: L => by
    have ih := at1_put x y s L
    unfold put1
    cases hb : (x == p.1) with
    | true =>
      have e := beq_iff_eq.1 hb
      subst e
      unfold at1
      simp only [if_true, List.find?_cons]
      cases h2 : (y == p.1) <;> simp
    | false =>
      unfold at1 at ih ⊢
      simp only [Bool.false_eq_true, if_false, List.find?_cons]
      cases h2 : (y == p.1) with
      | true =>
        have e := beq_iff_eq.1 h2
        subst e
        have : (p.1 == x) = false := by rw [beq_eq_false_iff_ne] at hb ⊢; exact fun e => hb e.symm
        rw [this]
        rfl
      | false => exact ih
theorem fIx_some (x : List UInt8) (s : ByteArray) : ∀ (L : List Ent1) (k i : Nat) (v : Value), fIx x L k = some (i, v) → ∃ j p, i = k + j ∧ L[j]? = some p ∧ p.1 = x ∧ put1 x s L = L.set j (x, s)
  | [], k, i, v, h => by cases h
  | p :: L, k, i, v, h => by
    unfold fIx at h
    cases hb : (x == p.1) with
    | true =>
      rw [hb] at h
      simp only [if_true, Option.some.injEq, Prod.mk.injEq] at h
      refine ⟨0, p, by omega, rfl, (beq_iff_eq.1 hb).symm, ?_⟩
      unfold put1
      rw [hb]
      rfl
    | false =>
      rw [hb] at h
      simp only [Bool.false_eq_true, if_false] at h
      obtain ⟨j, q, e1, e2, e3, e4⟩ := fIx_some x s L (k + 1) i v h
      refine ⟨j + 1, q, by omega, e2, e3, ?_⟩
      unfold put1
      rw [hb]
      simp only [Bool.false_eq_true, if_false]
      rw [e4]
      rfl
theorem fIx_none (x : List UInt8) (s : ByteArray) : ∀ (L : List Ent1) (k : Nat), fIx x L k = none → put1 x s L = L ++ [(x, s)]
  | [], k, _ => rfl
  | p :: L, k, h => by
    unfold fIx at h
    cases hb : (x == p.1) with
    | true => rw [hb] at h; cases h
    | false =>
      rw [hb] at h
      simp only [Bool.false_eq_true, if_false] at h
      unfold put1
      rw [hb]
      simp only [Bool.false_eq_true, if_false]
      rw [fIx_none x s L (k + 1) h]
      rfl
theorem map_modify_set {α β : Type} {f : α → α} {g : α → β} {c : β} (hf : ∀ e, g (f e) = c) : ∀ (l : List α) (j : Nat), (l.modify j f).map g = (l.map g).set j c
  | [], j => by simp
  | a :: l, 0 => by simp [hf]
  | a :: l, j + 1 => by
    have := map_modify_set hf l j
    simpa using this
theorem sameBits_bv (n : Nat) : ∀ x : List UInt8, ((bv x).zip (bv x)).all (fun p => Instr.sameBits n p.1 p.2) = true := by
  intro x
  rw [List.all_eq_true]
  intro p hp
  obtain ⟨i, hi, rfl⟩ := List.getElem_of_mem hp
  rw [List.getElem_zip]
  simp only [bv, List.getElem_map]
  unfold Instr.sameBits
  simp
theorem sameBits_id (n : Nat) (x : List UInt8) : Instr.sameBits (n + 1) (.agg (bv x).toArray) (.agg (bv x).toArray) = true := by
  unfold Instr.sameBits
  rw [Bool.and_eq_true]
  refine ⟨by simp, ?_⟩
  have := sameBits_bv n x
  simpa using this
theorem put1_ids (x : List UInt8) (s : ByteArray) (hx : x.length = 33) : ∀ L : List Ent1, (∀ p ∈ L, p.1.length = 33) → ∀ p ∈ put1 x s L, p.1.length = 33
  | [], _, p, hp => by
    unfold put1 at hp
    rw [List.mem_singleton] at hp
    subst hp
    exact hx
  | q :: L, h, p, hp => by
    unfold put1 at hp
    split at hp
    · rcases List.mem_cons.1 hp with rfl | hp
      · exact hx
      · exact h p (List.mem_cons_of_mem _ hp)
    · rcases List.mem_cons.1 hp with rfl | hp
      · exact h _ (List.mem_cons_self ..)
      · exact put1_ids x s hx L (fun p hp => h p (List.mem_cons_of_mem _ hp)) p hp
theorem run_lookup_id (T : TypeId) (hT : Tryd.prog.underlying T = some (.map 27 9)) {w : World} {b : Nat} {L : List Ent1} (h : MapB w b L) (hl : ∀ p ∈ L, p.1.length = 33) (x : List UInt8) (hx : x.length = 33) :
    (Instr.lookup T (.map (some b)) (.agg (bv x).toArray) true).run Tryd.prog w = .ok (.tuple #[.string ((at1 x L).getD ByteArray.empty), .bool (at1 x L).isSome]) w := by
  obtain ⟨es, c, h1, h2⟩ := h
  have hz : (zeroValue 9).run Tryd.prog w = .ok (.string ByteArray.empty) w := by kernel_rfl
  have hf := run_findKey_id w x hx L es.toList h2 hl
  have hat := fIx_at x L 0
  simp only [Instr.lookup, Sem.run_bind, run_underlying hT, Result.andThen_ok, Go.MapKept.run_getObj_map h1, Sem.run_pure, run_checkKey_id w _ x hx, hf]
  cases hi : fIx x L 0 with
  | none =>
    rw [hi] at hat
    have : at1 x L = none := by cases hq : at1 x L with | none => rfl | some s => rw [hq] at hat; cases hat
    rw [this]
    simp [hz]
  | some r =>
    obtain ⟨i, v⟩ := r
    rw [hi] at hat
    cases hq : at1 x L with
    | none => rw [hq] at hat; cases hat
    | some s =>
      rw [hq] at hat
      simp only [Option.map_some, Option.some.injEq] at hat
      subst hat
      simp
theorem run_mapUpdate_id (T : TypeId) (hT : Tryd.prog.underlying T = some (.map 27 9)) {w : World} {b : Nat} {L : List Ent1} (h : MapB w b L) (hl : ∀ p ∈ L, p.1.length = 33) (x : List UInt8) (hx : x.length = 33) (s : ByteArray) :
    ∃ w', (Instr.mapUpdate T (.map (some b)) (.agg (bv x).toArray) (.string s)).run Tryd.prog w = .ok () w' ∧ MapB w' b (put1 x s L) ∧ w.grownBy w' (some b) := by
  obtain ⟨es, c, h1, h2⟩ := h
  have hb : b < w.heap.size := (Array.getElem?_eq_some_iff.1 h1).1
  have hf := run_findKey_id w x hx L es.toList h2 hl
  have hg : ∀ o, w.grownBy { w with heap := w.heap.setIfInBounds b o } (some b) := fun o => ⟨rfl, rfl, rfl, by simp, fun k _ hk => by
    have : k ≠ b := fun e => hk (by rw [e])
    simp [Array.getElem?_setIfInBounds_ne (Ne.symm this)]⟩
  have hset : ∀ o, ({ w with heap := w.heap.setIfInBounds b o } : World).heap[b]? = some o := fun o => by simp [hb]
  cases hi : fIx x L 0 with
  | none =>
    refine ⟨{ w with heap := w.heap.setIfInBounds b (.map (es.push { key := .agg (bv x).toArray, val := .string s, born := c }) (c + 1)) }, ?_, ?_, hg _⟩
    · simp only [Instr.mapUpdate, Sem.run_bind, run_underlying hT, Result.andThen_ok, Go.MapKept.run_getObj_map h1, run_checkKey_id w _ x hx, hf, hi, Go.MapKept.run_setObj_map _ h1]
    · refine ⟨_, _, hset _, ?_⟩
      rw [fIx_none x s L 0 hi]
      unfold entsOf at h2 ⊢
      rw [Array.toList_push, List.map_append, List.map_append, h2]
      rfl
  | some r =>
    obtain ⟨i, v⟩ := r
    obtain ⟨j, p, e1, e2, e3, e4⟩ := fIx_some x s L 0 i v hi
    rw [Nat.zero_add] at e1
    subst e1
    have hk : ∃ q, es[i]? = some q ∧ q.key = .agg (bv x).toArray := by
      unfold entsOf at h2
      have := congrArg (fun l => l[i]?) h2
      simp only [List.getElem?_map, e2, Option.map_some] at this
      cases hq : es.toList[i]? with
      | none => rw [hq] at this; cases this
      | some q =>
        rw [hq] at this
        simp only [Option.map_some, Option.some.injEq, Prod.mk.injEq] at this
        refine ⟨q, by rw [← Array.getElem?_toList]; exact hq, ?_⟩
        rw [this.1, e3]
    obtain ⟨q, hq, hqk⟩ := hk
    have hst : (Instr.keyThatStays (((es[i]?).map (·.key)).getD (.agg (bv x).toArray)) (.agg (bv x).toArray)).run Tryd.prog w = .ok (.agg (bv x).toArray) w := by
      rw [hq, Option.map_some, Option.getD_some, hqk]
      unfold Instr.keyThatStays
      rw [sameBits_id 9999 x]
      simp
    refine ⟨{ w with heap := w.heap.setIfInBounds b (.map (es.modify i fun e => { e with key := .agg (bv x).toArray, val := .string s }) c) }, ?_, ?_, hg _⟩
    · simp only [Instr.mapUpdate, Sem.run_bind, run_underlying hT, Result.andThen_ok, Go.MapKept.run_getObj_map h1, run_checkKey_id w _ x hx, hf, hi, hst, Go.MapKept.run_setObj_map _ h1]
    · refine ⟨_, _, hset _, ?_⟩
      rw [e4]
      unfold entsOf at h2 ⊢
      rw [Array.toList_modify, map_modify_set (f := fun e : MapEntry => { e with key := .agg (bv x).toArray, val := .string s }) (g := fun e : MapEntry => (e.key, e.val)) (c := (Value.agg (bv x).toArray, Value.string s)) (fun e => rfl), h2, List.map_set]
end Go.Proofs.YtcnhbodemabbdaaDoor
