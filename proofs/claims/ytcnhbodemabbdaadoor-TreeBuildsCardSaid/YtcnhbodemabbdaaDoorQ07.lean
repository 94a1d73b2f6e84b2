/- What an argument reads as, by its type's shape: from the form's own reading ('trod') to plain Lean data with cells and bounds. Of no program. -/
import Derived.Test.YtcnhbodemabbdaaDoorQ01
import Derived.ProofKit
import Derived.OpenShut
import Derived.ChangeOld
import Derived.SizedLaws
namespace Go.Proofs.YtcnhbodemabbdaaDoor
open Go.RowKit
set_option linter.unusedVariables false

/-- The cells of one value of a type, as data. -/
abbrev Rd (α : Type) := World → List Value → α → Prop

/-- Readings that are small, and what they give. -/
def Opens {α : Type} (P : Program) (t : TypeId) (R : Rd α) : Prop :=
  ∀ (H : Type) (enc : TypeId × Value → H) (w : World) (fuel : Nat) (cs : List Value) (d : DataW H) (ps : List MemPlace),
    DataW.trod enc P w 0 (fun _ => true) true fuel t cs = some (d, ps) → (∀ n ∈ d.weights P t, n ≤ reachBytes) → ∃ x, R w cs x

def rdBool : Rd Bool := fun _ cs b => cs = [.bool b]
def rdInt (k : IntKind) : Rd Int := fun _ cs n => cs = [.int k n] ∧ (Lit.int k n).wf = true
def rdU64 : Rd (BitVec 64) := fun _ cs n => cs = [.int .u64 n.toNat]
def rdU8 : Rd UInt8 := fun _ cs n => cs = [.int .u8 n.toNat]
def rdI64 : Rd Int := fun _ cs n => cs = [.int .i64 n] ∧ -9223372036854775808 ≤ n ∧ n ≤ 9223372036854775807
def rdStr : Rd ByteArray := fun _ cs s => cs = [.string s] ∧ s.size ≤ 140737488351232
/-- A slice: its elements (not those behind its length), each of size 'sz' cells. -/
def rdSlice {α : Type} (sz bytes : Nat) (R : Rd α) : Rd (List α) := fun w cs xs =>
  ∃ a c, cs = [.slice a xs.length c] ∧ xs.length ≤ c ∧ c ≤ maxLen ∧ xs.length * bytes ≤ 140737488351232 ∧
    ∀ i x, xs[i]? = some x → ∃ ad es, a = some ad ∧ es.length = sz ∧ (∀ j v, es[j]? = some v → w.cell? ((ad.add (i * sz)).add j) = some v) ∧ R w es x

section
variable {P : Program} {t e : TypeId}

theorem opens_bool (h : P.underlying t = some .bool) : Opens P t rdBool := by
  intro H enc w fuel cs d ps hf _
  cases fuel with
  | zero => simp [DataW.trod] at hf
  | succ fuel =>
    unfold DataW.trod at hf
    rw [h] at hf
    split at hf <;> simp_all [rdBool]

theorem opens_int {k : IntKind} (h : P.underlying t = some (.int k)) : Opens P t (rdInt k) := by
  intro H enc w fuel cs d ps hf _
  cases fuel with
  | zero => simp [DataW.trod] at hf
  | succ fuel =>
    unfold DataW.trod at hf
    rw [h] at hf
    split at hf <;> simp_all [rdInt]
    all_goals grind

theorem opens_str (h : P.underlying t = some .string) : Opens P t rdStr := by
  intro H enc w fuel cs d ps hf hw
  cases fuel with
  | zero => simp [DataW.trod] at hf
  | succ fuel =>
    unfold DataW.trod at hf
    rw [h] at hf
    split at hf <;> simp_all [rdStr]
    obtain ⟨_, rfl, rfl⟩ := hf
    simp [DataW.weights, reachBytes] at hw
    exact hw

theorem opens_imp {α β : Type} {R : Rd α} {S : Rd β} (h : Opens P t R) (k : ∀ w cs x, R w cs x → ∃ y, S w cs y) : Opens P t S := by
  intro H enc w fuel cs d ps hf hw
  obtain ⟨x, hx⟩ := h H enc w fuel cs d ps hf hw
  exact k w cs x hx

theorem opens_u64 (h : P.underlying t = some (.int .u64)) : Opens P t rdU64 :=
  opens_imp (opens_int h) fun w cs n ⟨hc, hn⟩ => by
    have hb : 0 ≤ n ∧ n < 18446744073709551616 := by simp [Lit.wf, IntKind.min, IntKind.max, IntKind.signed, IntKind.bits] at hn; omega
    refine ⟨BitVec.ofNat 64 n.toNat, ?_⟩
    simp only [rdU64, hc, BitVec.toNat_ofNat]
    congr 2
    omega

theorem opens_u8 (h : P.underlying t = some (.int .u8)) : Opens P t rdU8 :=
  opens_imp (opens_int h) fun w cs n ⟨hc, hn⟩ => by
    have hb : 0 ≤ n ∧ n < 256 := by simp [Lit.wf, IntKind.min, IntKind.max, IntKind.signed, IntKind.bits] at hn; omega
    refine ⟨UInt8.ofNat n.toNat, ?_⟩
    simp only [rdU8, hc, UInt8.toNat_ofNat']
    congr 2
    omega

theorem opens_i64 (h : P.underlying t = some (.int .i64)) : Opens P t rdI64 :=
  opens_imp (opens_int h) fun w cs n ⟨hc, hn⟩ => by
    refine ⟨n, hc, ?_⟩
    simp [Lit.wf, IntKind.min, IntKind.max, IntKind.signed, IntKind.bits] at hn
    omega

theorem cells?_get {w : World} {base n : Nat} {a : Addr} {es : List Value} (h : w.cells? base a n = some es) : es.length = n ∧ ∀ j v, es[j]? = some v → w.cell? (a.add j) = some v := by
  unfold World.cells? at h
  split at h
  · have hl := mapM_some_length h
    simp only [List.length_range] at hl
    refine ⟨hl, fun j v hj => ?_⟩
    have hlt : j < n := by rw [← hl]; exact (List.getElem?_eq_some_iff.1 hj).1
    exact (mapM_some_get h j j (by simp [hlt])).trans hj
  · cases h

theorem weightsAll_mem {H : Type} {d : DataW H} {n : Nat} : ∀ {l : List (DataW H)}, d ∈ l → n ∈ d.weights P e → n ∈ DataW.weightsAll P e l
  | x :: l, hd, hn => by
    simp only [DataW.weightsAll, List.mem_append]
    rcases List.mem_cons.1 hd with rfl | hd
    · exact .inl hn
    · exact .inr (weightsAll_mem hd hn)

theorem list_of {α : Type} {n : Nat} {p : Nat → α → Prop} (h : ∀ i, i < n → ∃ x, p i x) : ∃ xs : List α, xs.length = n ∧ ∀ i x, xs[i]? = some x → p i x := by
  induction n with
  | zero => exact ⟨[], rfl, fun i x hx => by simp at hx⟩
  | succ n ih =>
    obtain ⟨xs, hl, hx⟩ := ih fun i hi => h i (by omega)
    obtain ⟨y, hy⟩ := h n (by omega)
    refine ⟨xs ++ [y], by simp [hl], fun i x hi => ?_⟩
    rcases Nat.lt_or_ge i xs.length with hlt | hge
    · exact hx i x (by rwa [List.getElem?_append_left hlt] at hi)
    · rw [List.getElem?_append_right hge] at hi
      have : i - xs.length = 0 := by
        have := (List.getElem?_eq_some_iff.1 hi).1
        simp at this
        omega
      rw [this] at hi
      simp at hi
      subst hi
      have : i = n := by omega
      subst this
      exact hy

theorem opens_slice {α : Type} {R : Rd α} {sz bytes : Nat} (h : P.underlying t = some (.slice e)) (hs : P.cellsOf e = sz) (hb : P.bytesOf e = bytes) (hR : Opens P e R) : Opens P t (rdSlice sz bytes R) := by
  intro H enc w fuel cs d ps hf hw
  cases fuel with
  | zero => simp [DataW.trod] at hf
  | succ fuel =>
    unfold DataW.trod at hf
    rw [h] at hf
    split at hf <;> try (simp_all; done)
    · exact ⟨[], none, 0, rfl, Nat.le_refl _, by simp, by simp, fun i x hx => by simp at hx⟩
    · rename_i heq
      injection heq with heq
      injection heq with heq
      subst heq
      dsimp only at hf
      split at hf
      · rename_i hb3
        obtain ⟨_, hlc, hcm⟩ := hb3
        obtain ⟨elems, he, hf⟩ := Option.bind_eq_some_iff.1 hf
        obtain ⟨rest, hr, hf⟩ := Option.map_eq_some_iff.1 hf
        obtain ⟨rfl, rfl⟩ := Prod.mk.inj hf
        have hel := mapM_some_length he
        simp only [List.length_range] at hel
        simp only [DataW.weights, h, List.length_map] at hw
        have hlen := hw ((elems.length + rest.length) * P.bytesOf e) (List.mem_cons_self ..)
        rw [hb] at hlen
        obtain ⟨xs, hxl, hx⟩ := list_of (n := elems.length) (p := fun i x => ∃ es, es.length = sz ∧ (∀ j v, es[j]? = some v → w.cell? ((‹Addr›.add (i * sz)).add j) = some v) ∧ R w es x) (by
          intro i hi
          have hg := mapM_some_get he i i (List.getElem?_range (by omega))
          rw [List.getElem?_eq_getElem hi] at hg
          obtain ⟨es, hes, ht⟩ := Option.bind_eq_some_iff.1 hg
          rw [hs] at hes
          obtain ⟨hl, hc⟩ := cells?_get hes
          obtain ⟨x, hx⟩ := hR H enc w fuel es elems[i].1 elems[i].2 ht (fun n hn => hw n (by
            refine List.mem_cons_of_mem _ (List.mem_append_left _ (weightsAll_mem (List.mem_map_of_mem (List.getElem_mem hi)) hn))))
          exact ⟨x, es, hl, hc, hx⟩)
        refine ⟨xs, some ‹Addr›, _, by rw [hxl, hel], by omega, hcm, ?_, fun i x hi => ?_⟩
        · rw [hxl]
          exact Nat.le_trans (Nat.mul_le_mul_right _ (Nat.le_add_right _ _)) hlen
        · obtain ⟨es, h1, h2, h3⟩ := hx i x hi
          exact ⟨_, es, rfl, h1, h2, h3⟩
      · cases hf

end

theorem bytes_of_rd {w : World} {cs : List Value} {bs : List UInt8} (h : rdSlice 1 1 rdU8 w cs bs) :
    ∃ a c, cs = [.slice a bs.length c] ∧ bs.length ≤ c ∧ bs.length ≤ 140737488351232 ∧ Cells w a (bv bs) := by
  obtain ⟨a, c, hcs, hl, _, hb, hx⟩ := h
  refine ⟨a, c, hcs, hl, by omega, fun i v hv => ?_⟩
  obtain ⟨b, hbi, rfl⟩ : ∃ b, bs[i]? = some b ∧ Value.int .u8 b.toNat = v := by
    simp only [bv, List.getElem?_map] at hv
    obtain ⟨b, h1, h2⟩ := Option.map_eq_some_iff.1 hv
    exact ⟨b, h1, h2⟩
  obtain ⟨ad, es, rfl, hel, hc, hr⟩ := hx i b hbi
  simp only [rdU8] at hr
  subst hr
  exact ⟨ad, rfl, by have := hc 0 _ rfl; rwa [Nat.mul_one] at this⟩

theorem bytess_of_rd {w : World} {cs : List Value} {xs : List (List UInt8)} (h : rdSlice 1 24 (rdSlice 1 1 rdU8) w cs xs) :
    ∃ a c, cs = [.slice a xs.length c] ∧ xs.length ≤ c ∧ xs.length ≤ 140737488351232 ∧ BSs w a xs ∧ ∀ x ∈ xs, x.length ≤ 140737488351232 := by
  obtain ⟨a, c, hcs, hl, _, hb, hx⟩ := h
  refine ⟨a, c, hcs, hl, by omega, fun i bs hi => ?_, fun x hm => ?_⟩
  · obtain ⟨ad, es, rfl, hel, hc, hr⟩ := hx i bs hi
    obtain ⟨a', c', rfl, hl', _, hcell⟩ := bytes_of_rd hr
    exact ⟨ad, _, rfl, by have := hc 0 _ rfl; rwa [Nat.mul_one] at this, a', c', rfl, hl', hcell⟩
  · obtain ⟨i, hi, rfl⟩ := List.mem_iff_getElem.1 hm
    obtain ⟨ad, es, _, _, _, hr⟩ := hx i _ (List.getElem?_eq_getElem hi)
    obtain ⟨_, _, _, _, hlen, _⟩ := bytes_of_rd hr
    exact hlen

theorem weightsEach_mem {H : Type} {P : Program} {ts : List TypeId} {ds : List (DataW H)} {j : Nat} {t : TypeId} {d : DataW H} (h : (DataW.weightsEach P ts ds).all (· ≤ reachBytes) = true) (ht : ts[j]? = some t) (hd : ds[j]? = some d) :
    ∀ n ∈ d.weights P t, n ≤ reachBytes := fun n hn => by
  have := List.all_eq_true.1 h n (DataW.weights_mem_each ht hd n hn)
  simpa using this

/-- An argument, opened. -/
theorem open_arg {H : Type} {enc : TypeId × Value → H} {P : Program} {t : TypeId} {α : Type} {R : Rd α} (hR : Opens P t R) {W : World} {v : Value} {d : DataW H} {ps : List MemPlace} {ts : List TypeId} {ds : List (DataW H)} (j : Nat)
    (hsz : (DataW.weightsEach P ts ds).all (· ≤ reachBytes) = true) (ht : ts[j]? = some t) (hd : ds[j]? = some d) (h : DataW.Trod enc P W 0 (fun _ => true) true t v d ps) : ∃ x, R W v.cells.toList x := by
  obtain ⟨fuel, hf⟩ := h
  exact hR H enc W fuel _ d ps hf (weightsEach_mem hsz ht hd)

theorem trod_blocks {H : Type} {enc : TypeId × Value → H} {P : Program} {t : TypeId} {W : World} {v : Value} {d : DataW H} {ps : List MemPlace} (h : DataW.Trod enc P W 0 (fun _ => true) true t v d ps) : ∀ x ∈ ps, x.block < W.heap.size := by
  obtain ⟨m, hm⟩ := h
  exact DataW.trod_lt m _ _ _ hm

end Go.Proofs.YtcnhbodemabbdaaDoor
