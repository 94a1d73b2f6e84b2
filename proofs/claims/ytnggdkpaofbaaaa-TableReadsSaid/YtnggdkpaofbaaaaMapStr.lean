/- A map keyed by strings, with writes for elements: written, as a list of entries. -/
import Derived.Test.YtnggdkpaofbaaaaAppend
import Derived.Test.YtnggdkpaofbaaaaStructs
import Derived.Test.YtnggdkpaofbaaaaTabPure
import Derived.MapKept
import Derived.Maps.RangeRun
namespace Go.Proofs.Ytnggdkpaofbaaaa
open Go.RowKit
set_option linter.unusedVariables false

def wC (x : W3) : List Value := [.string x.1, .string x.2.1, .bool x.2.2]
def wV (x : W3) : Value := .agg (wC x).toArray
theorem wC_one (x : W3) : ∀ v ∈ wC x, v.oneCell' = true := by
  intro v hv
  simp only [wC, List.mem_cons, List.not_mem_nil, or_false] at hv
  rcases hv with rfl | rfl | rfl <;> rfl
theorem wC_len (x : W3) : (wC x).length = 3 := rfl
def entsS (L : List W3) (es : List MapEntry) : Prop := es.map (fun e => (e.key, e.val)) = L.map (fun p => (Value.string p.1, wV p))
def MapS (w : World) (b : Nat) (L : List W3) : Prop := ∃ es clock, w.heap[b]? = some (.map es clock) ∧ entsS L es.toList ∧ Go.MapKept.Stamped es clock
theorem MapS.lt {w : World} {b : Nat} {L : List W3} (h : MapS w b L) : b < w.heap.size := by
  obtain ⟨es, c, h1, _⟩ := h
  exact (Array.getElem?_eq_some_iff.1 h1).1
theorem MapS.ext {w w' : World} {b : Nat} {L : List W3} (h : MapS w b L) (k : Ext w w') : MapS w' b L := by
  have hl := h.lt
  obtain ⟨es, c, h1, h2⟩ := h
  exact ⟨es, c, (k.block b hl).trans h1, h2⟩
theorem MapS.grown {w w' : World} {b : Nat} {L : List W3} (h : MapS w b L) {row : Option Nat} (hg : w.grownBy w' row) (hne : some b ≠ row) : MapS w' b L := by
  have hl := h.lt
  obtain ⟨es, c, h1, h2⟩ := h
  exact ⟨es, c, (hg.block b hl hne).trans h1, h2⟩
theorem MapS.new (w : World) : MapS (w.alloc (.map #[] 0)) w.heap.size [] := ⟨#[], 0, heap_alloc_new w _, rfl, Go.MapKept.stamped_empty 0⟩
theorem MapS.ne_blk {w : World} {b g : Nat} {L : List W3} {T : TypeId} {cs : Array Value} (h : MapS w b L) (hb : Blk w g T cs) : g ≠ b := by
  obtain ⟨es, c, h1, _⟩ := h
  rintro rfl
  unfold Blk at hb
  rw [h1] at hb
  cases hb
theorem entsS_key {L : List W3} {es : List MapEntry} (h : entsS L es) : ∀ e ∈ es, Go.MapKept.IsKey .string e.key := by
  intro e he
  have : (e.key, e.val) ∈ es.map (fun e => (e.key, e.val)) := List.mem_map_of_mem he
  rw [h] at this
  obtain ⟨p, _, hp⟩ := List.mem_map.1 this
  simp only [Prod.mk.injEq] at hp
  rw [← hp.1]
  trivial
theorem entsS_at {L : List W3} {es : List MapEntry} (h : entsS L es) {j : Nat} {e : MapEntry} (he : es[j]? = some e) : ∃ p, L[j]? = some p ∧ e.key = .string p.1 ∧ e.val = wV p := by
  have := congrArg (fun l => l[j]?) h
  simp only [List.getElem?_map, he, Option.map_some] at this
  cases hp : L[j]? with
  | none => rw [hp] at this; cases this
  | some p =>
    rw [hp] at this
    simp only [Option.map_some, Option.some.injEq, Prod.mk.injEq] at this
    exact ⟨p, rfl, this.1, this.2⟩
theorem entsS_len {L : List W3} {es : List MapEntry} (h : entsS L es) : es.length = L.length := by
  have := congrArg List.length h
  simpa using this
theorem putM_none (x : W3) : ∀ L : List W3, (∀ p ∈ L, p.1 ≠ x.1) → putM x L = L ++ [x]
  | [], _ => rfl
  | p :: L, h => by
    simp only [putM, if_neg (h p (List.mem_cons_self ..)), putM_none x L (fun q hq => h q (List.mem_cons_of_mem _ hq)), List.cons_append]
theorem putM_set (x : W3) : ∀ (L : List W3) (j : Nat) (p : W3), KeysND L → L[j]? = some p → p.1 = x.1 → putM x L = L.set j x
  | [], j, p, _, h, _ => by cases h
  | q :: L, 0, p, _, h, e => by
    cases h
    simp only [putM, if_pos e, List.set_cons_zero]
  | q :: L, j + 1, p, hn, h, e => by
    have hn' : (q.1 :: L.map (·.1)).Nodup := hn
    obtain ⟨h1, h2⟩ := List.nodup_cons.1 hn'
    have hp : p ∈ L := List.mem_of_getElem? h
    have : q.1 ≠ x.1 := fun e2 => h1 (by rw [e2, ← e]; exact List.mem_map_of_mem hp)
    simp only [putM, if_neg this, List.set_cons_succ]
    rw [putM_set x L j p h2 h e]
theorem entsS_nd {L : List W3} {es : List MapEntry} (h : entsS L es) (hk : (es.map (·.key)).Nodup) : KeysND L := by
  have e : es.map (·.key) = (L.map (·.1)).map Value.string := by
    have := congrArg (List.map Prod.fst) h
    simpa [List.map_map, Function.comp_def] using this
  rw [e] at hk
  exact (List.pairwise_map.1 hk).imp (fun h e => h (by rw [e]))
theorem run_mapUpdate_str (T K E : TypeId) (hT : Try.prog.underlying T = some (.map K E)) (hK : Try.prog.underlying K = some .string) {w : World} {b : Nat} {L : List W3} (h : MapS w b L) (x : W3) :
    ∃ w', (Instr.mapUpdate T (.map (some b)) (.string x.1) (wV x)).run Try.prog w = .ok () w' ∧ MapS w' b (putM x L) ∧ w.grownBy w' (some b) := by
  obtain ⟨es, c, h1, h2, h3⟩ := h
  have hb : b < w.heap.size := (Array.getElem?_eq_some_iff.1 h1).1
  have hk : Go.MapKept.IsKey .string (.string x.1) := trivial
  have hck := fun em => Go.MapKept.run_checkKey (P := Try.prog) (w := w) hK hk em 9999
  have hg : ∀ o, w.grownBy { w with heap := w.heap.setIfInBounds b o } (some b) := fun o => ⟨rfl, rfl, rfl, by simp, fun k _ hk => by
    have : k ≠ b := fun e => hk (by rw [e])
    simp [Array.getElem?_setIfInBounds_ne (Ne.symm this)]⟩
  have hset : ∀ o, ({ w with heap := w.heap.setIfInBounds b o } : World).heap[b]? = some o := fun o => by simp [hb]
  have hnd := entsS_nd h2 h3.2.2
  rcases Go.MapKept.findNow_spec hk es.toList 0 (entsS_key h2) with ⟨hf, hno⟩ | ⟨j, e, hf, he, hek⟩
  · have hfind := Go.MapKept.run_findKey (P := Try.prog) (w := w) hK hf
    refine ⟨{ w with heap := w.heap.setIfInBounds b (.map (es.push { key := .string x.1, val := wV x, born := c }) (c + 1)) }, ?_, ?_, hg _⟩
    · simp only [Instr.mapUpdate, Sem.run_bind, run_underlying hT, Result.andThen_ok, Go.MapKept.run_getObj_map h1, hck, hfind, Go.MapKept.run_setObj_map _ h1]
    · refine ⟨_, _, hset _, ?_, Go.MapKept.stamped_push h3 (fun y hy => hno y hy)⟩
      have hno' : ∀ p ∈ L, p.1 ≠ x.1 := fun p hp e => by
        have : (Value.string p.1, wV p) ∈ es.toList.map (fun e => (e.key, e.val)) := by rw [h2]; exact List.mem_map_of_mem hp
        obtain ⟨y, hy, hye⟩ := List.mem_map.1 this
        simp only [Prod.mk.injEq] at hye
        exact hno y hy (by rw [hye.1, e])
      rw [putM_none x L hno']
      unfold entsS at h2 ⊢
      rw [Array.toList_push, List.map_append, List.map_append, h2]
      rfl
  · rw [Nat.zero_add] at hf
    have hfind := Go.MapKept.run_findKey (P := Try.prog) (w := w) hK hf
    have he' : es[j]? = some e := by rw [← Array.getElem?_toList]; exact he
    obtain ⟨p, hp, hpk, hpv⟩ := entsS_at h2 he
    have hpx : p.1 = x.1 := by rw [hpk] at hek; exact Value.string.inj hek
    have hst : (Instr.keyThatStays (((es[j]?).map (·.key)).getD (.string x.1)) (.string x.1)).run Try.prog w = .ok (.string x.1) w := by
      rw [he', Option.map_some, Option.getD_some, hek]
      unfold Instr.keyThatStays
      have hbb : (x.1 == x.1) = true := (Go.MapKept.bytes_beq _ _).2 rfl
      simp [Instr.sameBits, hbb]
    refine ⟨{ w with heap := w.heap.setIfInBounds b (.map (es.modify j fun e => { e with key := .string x.1, val := wV x }) c) }, ?_, ?_, hg _⟩
    · simp only [Instr.mapUpdate, Sem.run_bind, run_underlying hT, Result.andThen_ok, Go.MapKept.run_getObj_map h1, hck, hfind, hst, Go.MapKept.run_setObj_map _ h1]
    · refine ⟨_, _, hset _, ?_, Go.MapKept.stamped_modify h3 j _ (fun _ _ => rfl) (fun q _ hq => by have hqe : q = e := Option.some.inj (hq.symm.trans he'); rw [hqe]; exact hek.symm)⟩
      rw [putM_set x L j p hnd hp hpx]
      unfold entsS at h2 ⊢
      rw [Array.toList_modify]
      have hmod : ∀ (l : List MapEntry) (j : Nat), (l.modify j fun e => { e with key := Value.string x.1, val := wV x }).map (fun e => (e.key, e.val)) = (l.map (fun e => (e.key, e.val))).set j (Value.string x.1, wV x) := by
        intro l
        induction l with
        | nil => intro j; simp
        | cons a l ih =>
          intro j
          cases j with
          | zero => simp
          | succ j => simpa using ih j
      rw [hmod, h2, List.map_set]
end Go.Proofs.Ytnggdkpaofbaaaa
