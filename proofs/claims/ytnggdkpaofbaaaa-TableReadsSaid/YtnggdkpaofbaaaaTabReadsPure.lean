/- What bytes a table is read from. -/
import Derived.Test.YtnggdkpaofbaaaaTabGreat
import Derived.Test.YtnggdkpaofbaaaaTabJoin
import Derived.Test.YtnggdkpaofbaaaaFramePure
namespace Go.Proofs.Ytnggdkpaofbaaaa
open Go.RowKit Go.Shelf
set_option linter.unusedVariables false

def okR (x : W3) : Prop := x.1.size ≤ 48 ∧ x.2.1.size ≤ 160
structure ValidT (l : List W3) : Prop where
  sorted : SortedW l
  fixed : Fixed l
  short : ∀ x ∈ l, okR x
def Reads (b : List UInt8) (l : List W3) : Prop := ValidT l ∧ (splitB b).1 = [rowB l] ∧ ∀ c ∈ (splitB b).2, c = 0
theorem uint_back {b : List UInt8} {n : Nat} {r : PR} (h : PR.uint ⟨b, false⟩ = (n, r)) (hg : r.bad = false) : b = uintB n ++ r.b ∧ n < 2 ^ 64 := by
  unfold PR.uint at h
  cases hu : rUF 0 0 b with
  | none =>
    simp only [hu] at h
    cases h
    cases hg
  | some q =>
    obtain ⟨m, t⟩ := q
    obtain ⟨k, hm, hb, _, hlt⟩ := rUF_back b 0 0 m t (by omega) hu
    simp only [Nat.pow_zero, Nat.mul_one, Nat.zero_add] at hm hlt
    simp only [hu] at h
    cases h
    subst hm
    exact ⟨hb, hlt⟩
theorem uint_bad {r : PR} (h : r.uint.2.bad = false) : r.bad = false := by
  unfold PR.uint at h
  split at h
  · exact h
  · cases h
theorem take_bad {r : PR} {n : Int} (h : (r.take n).2.bad = false) : r.bad = false := by
  unfold PR.take at h
  split at h
  · cases h
  · exact h
theorem text_bad {r : PR} {m : Int} (h : (r.text m).2.bad = false) : r.uint.2.bad = false := by
  unfold PR.text at h
  split at h
  · cases h
  · exact take_bad h
theorem take_len (r : PR) (n : Int) : (r.take n).2.b.length ≤ r.b.length := by
  unfold PR.take
  split
  · exact Nat.zero_le _
  · simp only [List.length_drop]
    omega
theorem uint_len (r : PR) : r.uint.2.b.length ≤ r.b.length := by
  unfold PR.uint
  cases hu : rUF 0 0 r.b with
  | none => exact Nat.zero_le _
  | some q =>
    obtain ⟨m, t⟩ := q
    obtain ⟨k, _, hb, _, _⟩ := rUF_back r.b 0 0 m t (by omega) hu
    have := congrArg List.length hb
    rw [List.length_append] at this
    show t.length ≤ r.b.length
    omega
theorem uint_less {r : PR} (h : r.uint.2.bad = false) : r.uint.2.b.length + 1 ≤ r.b.length := by
  have h0 := uint_bad h
  obtain ⟨b, bad⟩ := r
  simp only at h0
  subst h0
  have h1 := uint_back (b := b) (n := (PR.uint ⟨b, false⟩).1) (r := (PR.uint ⟨b, false⟩).2) rfl h
  have h2 := congrArg List.length h1.1
  have h3 := uintB_pos (PR.uint ⟨b, false⟩).1
  rw [List.length_append] at h2
  show (PR.uint ⟨b, false⟩).2.b.length + 1 ≤ b.length
  omega
theorem text_len (r : PR) (m : Int) : (r.text m).2.b.length ≤ r.b.length := by
  unfold PR.text
  split
  · exact Nat.zero_le _
  · exact Nat.le_trans (take_len _ _) (uint_len r)
theorem text_most {r : PR} {m : Int} (h : (r.text m).2.bad = false) : ((r.text m).1.length : Int) ≤ m := by
  have hb := text_bad h
  unfold PR.text at h ⊢
  split at h
  · cases h
  · rename_i hc
    rw [if_neg hc]
    unfold PR.take at h ⊢
    split at h
    · cases h
    · rename_i hd
      rw [if_neg hd]
      simp only [List.length_take, Int.toNat_natCast]
      omega
theorem good_eq {r : PR} (h : r.bad = false) : r = ⟨r.b, false⟩ := by cases r; simp only at h; subst h; rfl
/-- A write that was read. -/
theorem wr_back (r : PR) (h : (((r.uint.2.text 48).2.text 160).2).bad = false) :
    r.b = (uintB r.uint.1 ++ (textB (r.uint.2.text 48).1 ++ textB ((r.uint.2.text 48).2.text 160).1)) ++ ((r.uint.2.text 48).2.text 160).2.b ∧ ((r.uint.2.text 48).1.length ≤ 48 ∧ ((r.uint.2.text 48).2.text 160).1.length ≤ 160) ∧ ((r.uint.2.text 48).2.text 160).2.b.length + 1 ≤ r.b.length := by
  have h2 : (r.uint.2.text 48).2.bad = false := uint_bad (text_bad h)
  have h1 : r.uint.2.bad = false := uint_bad (text_bad h2)
  have h0 : r.bad = false := uint_bad h1
  have e0 := uint_back (b := r.b) (n := r.uint.1) (r := r.uint.2) (by rw [← good_eq h0]) h1
  have e1 := text_back (b := r.uint.2.b) (x := (r.uint.2.text 48).1) (most := 48) (r := (r.uint.2.text 48).2) (by rw [← good_eq h1]) h2
  have e2 := text_back (b := (r.uint.2.text 48).2.b) (x := ((r.uint.2.text 48).2.text 160).1) (most := 160) (r := ((r.uint.2.text 48).2.text 160).2) (by rw [← good_eq h2]) h
  have m1 := text_most h2
  have m2 := text_most h
  have l1 := uint_less h1
  have l2 := text_len r.uint.2 48
  have l3 := text_len (r.uint.2.text 48).2 160
  refine ⟨?_, ⟨by omega, by omega⟩, by omega⟩
  calc r.b = uintB r.uint.1 ++ r.uint.2.b := e0.1
    _ = uintB r.uint.1 ++ (textB (r.uint.2.text 48).1 ++ (r.uint.2.text 48).2.b) := by rw [← e1.1]
    _ = uintB r.uint.1 ++ (textB (r.uint.2.text 48).1 ++ (textB ((r.uint.2.text 48).2.text 160).1 ++ ((r.uint.2.text 48).2.text 160).2.b)) := by rw [← e2.1]
    _ = _ := by simp only [List.append_assoc]
/-- A write that is to be read. -/
theorem wr_of (x : W3) (hx : okR x) (rest : List UInt8) :
    PR.uint ⟨wrB x ++ rest, false⟩ = (goneN x, ⟨textB x.1.data.toList ++ (textB x.2.1.data.toList ++ rest), false⟩) ∧
    PR.text ⟨textB x.1.data.toList ++ (textB x.2.1.data.toList ++ rest), false⟩ 48 = (x.1.data.toList, ⟨textB x.2.1.data.toList ++ rest, false⟩) ∧
    PR.text ⟨textB x.2.1.data.toList ++ rest, false⟩ 160 = (x.2.1.data.toList, ⟨rest, false⟩) := by
  obtain ⟨h1, h2⟩ := hx
  refine ⟨?_, PR.text_of _ _ _ (by rw [str_len]; omega) (by rw [str_len]; omega), PR.text_of _ _ _ (by rw [str_len]; omega) (by rw [str_len]; omega)⟩
  have e : wrB x ++ rest = uintB (goneN x) ++ (textB x.1.data.toList ++ (textB x.2.1.data.toList ++ rest)) := by unfold wrB; simp only [List.append_assoc]
  rw [e]
  exact PR.uint_of _ (by unfold goneN; split <;> omega) _ _
def szW (x : W3) : Prop := x.1.size < 2 ^ 63 ∧ x.2.1.size < 2 ^ 63
theorem wrs_inj : ∀ (a c : List W3), (∀ x ∈ a, szW x) → (∀ x ∈ c, szW x) → a.length = c.length → wrsB a = wrsB c → a = c
  | [], [], _, _, _, _ => rfl
  | [], y :: c, _, _, h, _ => by simp at h
  | x :: a, [], _, _, h, _ => by simp at h
  | x :: a, y :: c, ha, hc, hl, h => by
    have hx := ha x (List.mem_cons_self ..)
    have hy := hc y (List.mem_cons_self ..)
    have e : wrB x ++ wrsB a = wrB y ++ wrsB c := h
    unfold wrB at e
    simp only [List.append_assoc] at e
    have g : ∀ z : W3, goneN z < 2 ^ 64 := fun z => by unfold goneN; split <;> omega
    have u1 := PR.uint_of (goneN x) (g x) (textB x.1.data.toList ++ (textB x.2.1.data.toList ++ wrsB a)) false
    have u2 := PR.uint_of (goneN y) (g y) (textB y.1.data.toList ++ (textB y.2.1.data.toList ++ wrsB c)) false
    rw [e, u2] at u1
    obtain ⟨q1, q2⟩ := Prod.mk.inj u1
    have q3 := (PR.mk.inj q2).1
    have t1 := PR.text_of x.1.data.toList (textB x.2.1.data.toList ++ wrsB a) (2 ^ 63) (by rw [str_len]; have := hx.1; omega) (by rw [str_len]; have := hx.1; omega)
    have t2 := PR.text_of y.1.data.toList (textB y.2.1.data.toList ++ wrsB c) (2 ^ 63) (by rw [str_len]; have := hy.1; omega) (by rw [str_len]; have := hy.1; omega)
    rw [← q3, t2] at t1
    obtain ⟨k1, k2⟩ := Prod.mk.inj t1
    have k3 := (PR.mk.inj k2).1
    have v1 := PR.text_of x.2.1.data.toList (wrsB a) (2 ^ 63) (by rw [str_len]; have := hx.2; omega) (by rw [str_len]; have := hx.2; omega)
    have v2 := PR.text_of y.2.1.data.toList (wrsB c) (2 ^ 63) (by rw [str_len]; have := hy.2; omega) (by rw [str_len]; have := hy.2; omega)
    rw [← k3, v2] at v1
    obtain ⟨w1, w2⟩ := Prod.mk.inj v1
    have w3 := (PR.mk.inj w2).1
    have hxy : x = y := by
      obtain ⟨x0, x1, x2⟩ := x
      obtain ⟨y0, y1, y2⟩ := y
      have a0 : x0 = y0 := by rw [← bstr_of x0, ← bstr_of y0]; exact congrArg bstr k1.symm
      have a1 : x1 = y1 := by rw [← bstr_of x1, ← bstr_of y1]; exact congrArg bstr w1.symm
      have a2 : x2 = y2 := by
        unfold goneN at q1
        cases x2 <;> cases y2 <;> simp at q1 ⊢
      rw [a0, a1, a2]
    rw [hxy, wrs_inj a c (fun z hz => ha z (List.mem_cons_of_mem _ hz)) (fun z hz => hc z (List.mem_cons_of_mem _ hz)) (by simpa using hl) w3.symm]
theorem row_inj (a c : List W3) (ha : ∀ x ∈ a, szW x) (hc : ∀ x ∈ c, szW x) (la : a.length < 2 ^ 64) (lc : c.length < 2 ^ 64) (h : rowB a = rowB c) : a = c := by
  unfold rowB at h
  have u1 := PR.uint_of a.length la (wrsB a) false
  have u2 := PR.uint_of c.length lc (wrsB c) false
  rw [h, u2] at u1
  obtain ⟨q1, q2⟩ := Prod.mk.inj u1
  exact wrs_inj a c ha hc q1.symm (PR.mk.inj q2).1.symm
theorem fr_inj {a c : List UInt8} (ha : a.length < 2 ^ 64) (hc : c.length < 2 ^ 64) (h : fr a = fr c) : a = c := by
  have h1 := nextB_fr a [] ha
  have h2 := nextB_fr c [] hc
  rw [h, h2] at h1
  exact (Prod.mk.inj (Option.some.inj h1)).1.symm
theorem split_one {b s : List UInt8} (h : (splitB b).1 = [s]) : b = fr s ++ (splitB b).2 ∧ s.length < 2 ^ 64 := by
  cases hn : nextB b with
  | none =>
    rw [splitB_none hn] at h
    cases h
  | some p =>
    obtain ⟨x, n⟩ := p
    have hs := splitB_some hn
    rw [hs] at h ⊢
    obtain ⟨h1, h2⟩ := List.cons.inj h
    subst h1
    obtain ⟨e1, e2, e3⟩ := nextB_some hn
    cases hm : nextB (b.drop n) with
    | none =>
      rw [splitB_none hm]
      exact ⟨e1, e3⟩
    | some q =>
      obtain ⟨y, m⟩ := q
      rw [splitB_some hm] at h2
      cases h2
theorem fr_nil_ne : ¬ ∀ c ∈ fr [], c = 0 := by
  have e : fr [] = [0] ++ le4 (crc [0]) := by
    unfold fr textB
    rw [show ([] : List UInt8).length = 0 from rfl, uintB_lt (by decide)]
    rfl
  rw [e]
  decide +kernel
theorem next_zeros (b : List UInt8) (h : ∀ c ∈ b, c = 0) : nextB b = none := by
  cases hn : nextB b with
  | none => rfl
  | some p =>
    obtain ⟨x, n⟩ := p
    exfalso
    obtain ⟨e1, _, _⟩ := nextB_some hn
    have hf : ∀ c ∈ fr x, c = 0 := fun c hc => h c (by rw [e1]; exact List.mem_append_left _ hc)
    have hx : x = [] := by
      have hu : ∀ c ∈ uintB x.length, c = 0 := fun c hc => hf c (by unfold fr textB; exact List.mem_append_left _ (List.mem_append_left _ hc))
      by_cases hl : x.length < 128
      · rw [uintB_lt hl] at hu
        have h0 := hu _ (List.mem_singleton.2 rfl)
        have h1 := congrArg UInt8.toNat h0
        rw [ofNat_small (by omega)] at h1
        exact List.eq_nil_of_length_eq_zero h1
      · rw [uintB_ge hl] at hu
        have h0 := hu _ (List.mem_cons_self ..)
        have h1 := congrArg UInt8.toNat h0
        rw [ofNat_small (by omega)] at h1
        have h2 : (0 : UInt8).toNat = 0 := rfl
        rw [h2] at h1
        omega
    subst hx
    exact fr_nil_ne hf
theorem split_tab (l : List W3) (hl : (rowB l).length < 2 ^ 64) (z : List UInt8) (hz : ∀ c ∈ z, c = 0) : splitB (tbB l ++ z) = ([rowB l], z) := by
  unfold tbB
  rw [splitB_fr _ _ hl, splitB_none (next_zeros z hz)]
theorem reads_tab (l : List W3) (hl : (rowB l).length < 2 ^ 64) (z : List UInt8) (hz : ∀ c ∈ z, c = 0) (hv : ValidT l) : Reads (tbB l ++ z) l := by
  unfold Reads
  rw [split_tab l hl z hz]
  exact ⟨hv, rfl, hz⟩
theorem reads_not (l : List W3) (hl : (rowB l).length < 2 ^ 64) (hs : ∀ x ∈ l, szW x) (hn : l.length < 2 ^ 64) (z : List UInt8) (hz : ∀ c ∈ z, c = 0) (hv : ¬ ∀ x ∈ l, okR x) (m : List W3) : ¬ Reads (tbB l ++ z) m := by
  intro h
  unfold Reads at h
  rw [split_tab l hl z hz] at h
  obtain ⟨h1, h2, _⟩ := h
  have he := (List.cons.inj h2).1
  have hml : m.length < 2 ^ 64 := by
    have h3 := congrArg List.length he
    rw [rowB_len m, rowB_len l] at h3
    have h4 : m.length ≤ wrsN m := by
      have : ∀ q : List W3, q.length ≤ wrsN q := fun q => by
        induction q with
        | nil => exact Nat.le_refl _
        | cons x t ih =>
          have e : wrsN (x :: t) = wrN x + wrsN t := by simp [wrsN]
          rw [e, List.length_cons]
          unfold wrN
          omega
      exact this m
    rw [rowB_len l] at hl
    omega
  have hlm := row_inj l m hs (fun x hx => by have := h1.short x hx; unfold okR at this; unfold szW; omega) hn hml he
  subst hlm
  exact hv h1.short
end Go.Proofs.Ytnggdkpaofbaaaa
