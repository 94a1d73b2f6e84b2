/- Layer 15 in plain Lean: what bytes are read as; they are read as a tree (a commit) just if they are its bytes. -/
import Derived.Test.YtcnhbodemabbdaaDoorQ37
namespace Go.Proofs.YtcnhbodemabbdaaDoor
set_option linter.unusedVariables false

theorem uint_inv {b : List UInt8} {m : Nat} {r : PR} (h : PR.uint ⟨b, false⟩ = (m, r)) (hg : r.bad = false) : b = uintB m ++ r.b := by
  unfold PR.uint at h
  cases hu : rUF 0 0 b with
  | none => simp only [hu] at h; cases h; cases hg
  | some q =>
    obtain ⟨x, t⟩ := q
    simp only [hu] at h
    cases h
    obtain ⟨n, hm, hb, _, _⟩ := rUF_back b 0 0 _ _ (by omega) hu
    simp only [Nat.pow_zero, Nat.mul_one, Nat.zero_add] at hm
    rw [hm]
    exact hb
theorem text_inv {b x : List UInt8} {most : Int} {r : PR} (h : PR.text ⟨b, false⟩ most = (x, r)) (hg : r.bad = false) : b = textB x ++ r.b := by
  unfold PR.text at h
  obtain ⟨m, q, hu⟩ : ∃ m q, PR.uint ⟨b, false⟩ = (m, q) := ⟨_, _, rfl⟩
  rw [hu] at h
  simp only at h
  split at h
  · cases h; cases hg
  · unfold PR.take at h
    split at h
    · cases h; cases hg
    · rename_i h1
      simp only [not_or, Int.not_lt, Bool.not_eq_true] at h1
      have hb := uint_inv hu h1.1
      have hl : m ≤ q.b.length := by omega
      cases h
      simp only [Int.toNat_natCast]
      rw [textB, List.length_take, Nat.min_eq_left hl, hb, List.append_assoc, List.take_append_drop]
theorem uint_fail : PR.fail.uint = (0, PR.fail) := rfl
theorem text_fail (m : Int) : PR.fail.text m = ([], PR.fail) := by
  unfold PR.text
  split
  · rfl
  · unfold PR.take
    rw [if_pos (.inl rfl)]
theorem blo_bstr (l : List UInt8) : blo (bstr l) = l := bstr_data l
theorem bstr_blo (s : ByteArray) : bstr (blo s) = s := by
  cases s
  simp [bstr, blo]
theorem uint_rest' (r : PR) : r.uint.2.b.length ≤ r.b.length := by
  have hr : ∀ (b : List UInt8) (i acc n : Nat) (q : List UInt8), rUF i acc b = some (n, q) → q.length ≤ b.length := by
    intro b
    induction b with
    | nil => intro i acc n q h; simp [rUF] at h
    | cons c b ih =>
      intro i acc n q h
      simp only [rUF] at h
      split at h
      · cases h
      · split at h
        · cases h; simp
        · have := ih _ _ _ _ h
          simp only [List.length_cons]
          omega
  unfold PR.uint
  split
  · rename_i n q hq
    exact hr _ _ _ _ _ hq
  · simp [PR.fail]
theorem take_rest' (r : PR) (n : Int) : (r.take n).2.b.length ≤ r.b.length ∧ (r.take n).1.length ≤ r.b.length := by
  unfold PR.take
  split
  · simp [PR.fail]
  · simp only [List.length_drop, List.length_take]; omega
theorem text_rest' (r : PR) (m : Int) : (r.text m).2.b.length ≤ r.b.length ∧ (r.text m).1.length ≤ r.b.length := by
  unfold PR.text
  split
  · simp [PR.fail]
  · have h1 := take_rest' r.uint.2 r.uint.1
    have h2 := uint_rest' r
    omega

/-- A name that stands in bytes. -/
def pid (r : PR) : List UInt8 × PR :=
  match r.b with
  | [] => (idNone, PR.fail)
  | k :: b => if idN k = 0 ∨ b.length < idN k then (idNone, PR.fail) else (idPad (k :: b.take (idN k)), ⟨b.drop (idN k), r.bad⟩)
theorem pid_fail : pid PR.fail = (idNone, PR.fail) := rfl
theorem pid_len (r : PR) : (pid r).1.length = 33 := by
  unfold pid
  split
  · exact idNone_len
  · rename_i k b _
    split
    · exact idNone_len
    · rename_i h
      refine idPad_len ?_
      have := idN_le k
      simp only [List.length_cons, List.length_take]
      omega
theorem pid_rest (r : PR) : (pid r).2.b.length ≤ r.b.length := by
  unfold pid
  split
  · simp [PR.fail]
  · rename_i k b hb
    split
    · simp [PR.fail]
    · rw [hb]; simp only [List.length_drop, List.length_cons]; omega
theorem PR.Ok.pid {r : PR} (h : r.Ok) : (pid r).2.Ok := by
  unfold Go.Proofs.YtcnhbodemabbdaaDoor.pid
  split
  · exact PR.ok_fail
  · rename_i k b hb
    split
    · exact PR.ok_fail
    · intro hbad
      have := h hbad
      rw [hb] at this
      cases this
theorem pid_inv {b x : List UInt8} {r : PR} (h : pid ⟨b, false⟩ = (x, r)) (hg : r.bad = false) : b = idText x ++ r.b ∧ idGood x = true := by
  unfold pid at h
  cases b with
  | nil => simp only at h; cases h; cases hg
  | cons k b =>
    simp only at h
    split at h
    · cases h; cases hg
    · rename_i hn
      cases h
      have hlt : (b.take (idN k)).length = idN k := by rw [List.length_take]; omega
      have hc : idCan (k :: b.take (idN k)) = true := by
        unfold idCan
        have hk : idKind (k :: b.take (idN k)) = k := rfl
        rw [hk, List.length_cons, hlt]
        simp only [Bool.and_eq_true, decide_eq_true_eq]
        omega
      obtain ⟨h1, h2⟩ := idCan_pad hc
      refine ⟨?_, h1⟩
      rw [h2, List.cons_append, List.take_append_drop]
theorem pid_of {x : List UInt8} (hl : x.length = 33) (hg : idGood x = true) (t : List UInt8) : pid ⟨idText x ++ t, false⟩ = (x, ⟨t, false⟩) := by
  have hc := idText_can hl hg
  obtain ⟨h1, h2⟩ := idCan_kind hc
  have hp := idPad_text hl hg
  obtain ⟨k, b, hb⟩ : ∃ k b, idText x = k :: b := by
    cases hx : idText x with
    | nil => rw [hx] at h2; simp at h2; omega
    | cons k b => exact ⟨k, b, rfl⟩
  rw [hb] at h1 h2 hp
  have hk : idKind (k :: b) = k := rfl
  rw [hk] at h1 h2
  rw [List.length_cons] at h2
  rw [hb]
  unfold pid
  simp only [List.cons_append]
  rw [if_neg (by simp only [List.length_append]; omega), List.take_append_of_le_length (by omega), List.take_of_length_le (by omega), hp, List.drop_append_of_le_length (by omega), List.drop_of_length_le (by omega), List.nil_append]

/-- What has been read of a tree. -/
structure TSt where
  prs : List Pr
  kds : List Kd
  r : PR
def tstep (leaf : Bool) (s : TSt) : TSt :=
  if leaf then ⟨s.prs ++ [(bstr (s.r.text 16).1, bstr ((s.r.text 16).2.text 16).1)], s.kds, ((s.r.text 16).2.text 16).2⟩
  else ⟨s.prs, s.kds ++ [(bstr (s.r.text 16).1, (pid (s.r.text 16).2).1)], (pid (s.r.text 16).2).2⟩
def tsteps (leaf : Bool) (r : PR) : Nat → TSt
  | 0 => ⟨[], [], r⟩
  | k + 1 => tstep leaf (tsteps leaf r k)
theorem tstep_ok {leaf : Bool} {s : TSt} (h : s.r.Ok) : (tstep leaf s).r.Ok := by
  cases leaf
  · exact (h.text _).pid
  · exact (h.text _).text _
theorem tsteps_ok {leaf : Bool} {r : PR} (h : r.Ok) : ∀ k, (tsteps leaf r k).r.Ok
  | 0 => h
  | k + 1 => tstep_ok (tsteps_ok h k)
theorem tstep_bad {leaf : Bool} {s : TSt} (h : s.r = PR.fail) : (tstep leaf s).r = PR.fail := by
  cases leaf
  · show (pid (s.r.text 16).2).2 = _
    rw [h, text_fail, pid_fail]
  · show ((s.r.text 16).2.text 16).2 = _
    rw [h, text_fail, text_fail]
theorem tsteps_bad {leaf : Bool} {r : PR} (h : r.Ok) {j : Nat} (hb : (tsteps leaf r j).r.bad = true) : ∀ k, j ≤ k → (tsteps leaf r k).r = PR.fail := by
  intro k
  induction k with
  | zero =>
    intro hj
    have e : j = 0 := by omega
    subst e
    exact (tsteps_ok h 0).eq hb
  | succ k ih =>
    intro hj
    by_cases e : j = k + 1
    · subst e; exact (tsteps_ok h _).eq hb
    · exact tstep_bad (ih (by omega))
theorem tsteps_len (leaf : Bool) (r : PR) : ∀ k, (tsteps leaf r k).prs.length = (if leaf then k else 0) ∧ (tsteps leaf r k).kds.length = (if leaf then 0 else k) := by
  intro k
  induction k with
  | zero => cases leaf <;> exact ⟨rfl, rfl⟩
  | succ k ih =>
    obtain ⟨h1, h2⟩ := ih
    cases leaf
    · refine ⟨h1, ?_⟩
      show ((tsteps false r k).kds ++ [_]).length = k + 1
      rw [List.length_append, h2]; rfl
    · refine ⟨?_, h2⟩
      show ((tsteps true r k).prs ++ [_]).length = k + 1
      rw [List.length_append, h1]; rfl
theorem tsteps_sizes (leaf : Bool) (r : PR) (M : Nat) (hr : r.b.length ≤ M) : ∀ k, (∀ p ∈ (tsteps leaf r k).prs, p.1.size ≤ M ∧ p.2.size ≤ M) ∧ (∀ p ∈ (tsteps leaf r k).kds, p.1.size ≤ M ∧ p.2.length = 33) ∧ (tsteps leaf r k).r.b.length ≤ M := by
  intro k
  induction k with
  | zero => exact ⟨fun p h => (by cases h), fun p h => (by cases h), hr⟩
  | succ k ih =>
    obtain ⟨h1, h2, h3⟩ := ih
    have t1 := text_rest' (tsteps leaf r k).r 16
    cases leaf
    · have t2 := pid_rest ((tsteps false r k).r.text 16).2
      refine ⟨h1, fun p hp => ?_, by show (pid ((tsteps false r k).r.text 16).2).2.b.length ≤ M; omega⟩
      have hp : p ∈ (tsteps false r k).kds ++ [_] := hp
      rcases List.mem_append.1 hp with hp | hp
      · exact h2 p hp
      · rw [List.mem_singleton] at hp; subst hp; exact ⟨by rw [bstr_size]; omega, pid_len _⟩
    · have t2 := text_rest' ((tsteps true r k).r.text 16).2 16
      refine ⟨fun p hp => ?_, h2, by show (((tsteps true r k).r.text 16).2.text 16).2.b.length ≤ M; omega⟩
      have hp : p ∈ (tsteps true r k).prs ++ [_] := hp
      rcases List.mem_append.1 hp with hp | hp
      · exact h1 p hp
      · rw [List.mem_singleton] at hp; subst hp; exact ⟨by rw [bstr_size]; omega, by rw [bstr_size]; omega⟩
theorem tsteps_inv (leaf : Bool) (b : List UInt8) : ∀ k, (tsteps leaf ⟨b, false⟩ k).r.bad = false →
    b = (if leaf then (tsteps leaf ⟨b, false⟩ k).prs.flatMap prB else (tsteps leaf ⟨b, false⟩ k).kds.flatMap kdB) ++ (tsteps leaf ⟨b, false⟩ k).r.b := by
  have hok : (PR.mk b false).Ok := fun h => by cases h
  intro k
  induction k with
  | zero => intro _; cases leaf <;> rfl
  | succ k ih =>
    intro hb
    have hgk : (tsteps leaf ⟨b, false⟩ k).r.bad = false := by
      cases h : (tsteps leaf ⟨b, false⟩ k).r.bad with
      | false => rfl
      | true => rw [tsteps_bad hok h (k + 1) (by omega)] at hb; cases hb
    have e := ih hgk
    obtain ⟨s, hs⟩ : ∃ s, s = tsteps leaf ⟨b, false⟩ k := ⟨_, rfl⟩
    have hstep : tsteps leaf ⟨b, false⟩ (k + 1) = tstep leaf s := by rw [hs]; rfl
    have hsok : s.r.Ok := by rw [hs]; exact tsteps_ok hok k
    rw [hstep] at hb ⊢
    rw [← hs] at e hgk
    clear hs hstep ih
    obtain ⟨prs, kds, ⟨rb, bad⟩⟩ := s
    simp only at hgk e hsok
    subst hgk
    obtain ⟨x, r1, h1⟩ : ∃ x r1, PR.text ⟨rb, false⟩ 16 = (x, r1) := ⟨_, _, rfl⟩
    have hr1 : r1.Ok := by have := hsok.text 16; rw [h1] at this; exact this
    cases leaf with
    | false =>
      obtain ⟨y, r2, h2⟩ : ∃ y r2, pid r1 = (y, r2) := ⟨_, _, rfl⟩
      have hr2 : (tstep false ⟨prs, kds, ⟨rb, false⟩⟩) = ⟨prs, kds ++ [(bstr x, y)], r2⟩ := by simp only [tstep, h1, h2, Bool.false_eq_true, if_false]
      rw [hr2] at hb ⊢
      simp only at hb ⊢
      have hb1 : r1.bad = false := by
        cases h : r1.bad with
        | false => rfl
        | true => rw [hr1.eq h, pid_fail] at h2; cases h2; cases hb
      have e1 := text_inv h1 hb1
      obtain ⟨r1b, r1bad⟩ := r1
      simp only at hb1 e1
      subst hb1
      obtain ⟨e2, hgd⟩ := pid_inv h2 hb
      rw [if_neg (by decide)] at e ⊢
      rw [List.flatMap_append, e, e1, e2]
      simp [kdB, blo_bstr]
    | true =>
      obtain ⟨y, r2, h2⟩ : ∃ y r2, PR.text r1 16 = (y, r2) := ⟨_, _, rfl⟩
      have hr2 : (tstep true ⟨prs, kds, ⟨rb, false⟩⟩) = ⟨prs ++ [(bstr x, bstr y)], kds, r2⟩ := by simp only [tstep, h1, h2, if_true]
      rw [hr2] at hb ⊢
      simp only at hb ⊢
      have hb1 : r1.bad = false := by
        cases h : r1.bad with
        | false => rfl
        | true => rw [hr1.eq h, text_fail] at h2; cases h2; cases hb
      have e1 := text_inv h1 hb1
      obtain ⟨r1b, r1bad⟩ := r1
      simp only at hb1 e1
      subst hb1
      have e2 := text_inv h2 hb
      simp only [if_true] at e ⊢
      rw [List.flatMap_append, e, e1, e2]
      simp [prB, blo_bstr]
theorem text16 {s : ByteArray} (h : s.size ≤ 16) (t : List UInt8) : PR.text ⟨textB (blo s) ++ t, false⟩ 16 = (blo s, ⟨t, false⟩) := PR.text_of _ _ _ (by rw [blo_len]; omega) (by rw [blo_len]; omega)
theorem tsteps_prs (ps : List Pr) (hs : ∀ p ∈ ps, p.1.size ≤ 16 ∧ p.2.size ≤ 16) (t : List UInt8) : ∀ k ≤ ps.length, tsteps true ⟨ps.flatMap prB ++ t, false⟩ k = ⟨ps.take k, [], ⟨(ps.drop k).flatMap prB ++ t, false⟩⟩ := by
  intro k
  induction k with
  | zero => intro _; rfl
  | succ k ih =>
    intro hk
    have hp := hs _ (List.getElem_mem (show k < ps.length by omega))
    show tstep true (tsteps true _ k) = _
    rw [ih (by omega), List.drop_eq_getElem_cons (show k < ps.length by omega), List.flatMap_cons]
    simp only [tstep, if_true]
    rw [prB, List.append_assoc, List.append_assoc, text16 hp.1]
    simp only
    rw [text16 hp.2]
    simp only [bstr_blo]
    rw [List.take_succ_eq_append_getElem (show k < ps.length by omega)]
theorem tsteps_kds (ks : List Kd) (hs : ∀ p ∈ ks, p.1.size ≤ 16 ∧ p.2.length = 33 ∧ idGood p.2 = true) (t : List UInt8) : ∀ k ≤ ks.length, tsteps false ⟨ks.flatMap kdB ++ t, false⟩ k = ⟨[], ks.take k, ⟨(ks.drop k).flatMap kdB ++ t, false⟩⟩ := by
  intro k
  induction k with
  | zero => intro _; rfl
  | succ k ih =>
    intro hk
    obtain ⟨h1, h2, h3⟩ := hs _ (List.getElem_mem (show k < ks.length by omega))
    show tstep false (tsteps false _ k) = _
    rw [ih (by omega), List.drop_eq_getElem_cons (show k < ks.length by omega), List.flatMap_cons]
    simp only [tstep, Bool.false_eq_true, if_false]
    rw [kdB, List.append_assoc, List.append_assoc, text16 h1]
    simp only
    rw [pid_of h2 h3]
    simp only [bstr_blo]
    rw [List.take_succ_eq_append_getElem (show k < ks.length by omega)]

def tOk (h : UInt8) (s : TSt) : Bool := (!s.r.bad && s.r.b.length == 0) && (Tr.good ⟨s.prs, s.kds⟩ && (!(h == 2 && s.kds.length == 0) && (h == 1 || h == 2)))
def decTB (h n : UInt8) (b : List UInt8) : Option Tr :=
  if tOk h (tsteps (h == 1) ⟨b, false⟩ n.toNat) then some ⟨(tsteps (h == 1) ⟨b, false⟩ n.toNat).prs, (tsteps (h == 1) ⟨b, false⟩ n.toNat).kds⟩ else none
/-- The tree of bytes. -/
def decT : List UInt8 → Option Tr
  | h :: n :: b => decTB h n b
  | _ => none
/-- All the names are as long as names are. -/
def Tr.ids (t : Tr) : Prop := ∀ k ∈ t.kids, k.2.length = 33
theorem decT_good {bs : List UInt8} {t : Tr} (h : decT bs = some t) : t.good = true ∧ t.ids ∧ t.bytes = bs := by
  match bs, h with
  | hd :: n :: b, h =>
    have h : decTB hd n b = some t := h
    unfold decTB at h
    split at h
    · rename_i hok
      obtain ⟨s, hs⟩ : ∃ s, s = tsteps (hd == 1) ⟨b, false⟩ n.toNat := ⟨_, rfl⟩
      have hsz := tsteps_sizes (hd == 1) ⟨b, false⟩ b.length (Nat.le_refl _) n.toNat
      have hln := tsteps_len (hd == 1) ⟨b, false⟩ n.toNat
      have hin := tsteps_inv (hd == 1) b n.toNat
      rw [← hs] at h hok hsz hln hin
      cases h
      unfold tOk at hok
      simp only [Bool.and_eq_true, Bool.not_eq_true', beq_iff_eq, Bool.or_eq_true, Bool.and_eq_false_iff, beq_eq_false_iff_ne] at hok
      obtain ⟨⟨h1, h2⟩, h3, h4, h5⟩ := hok
      have e := hin h1
      rw [List.eq_nil_of_length_eq_zero h2, List.append_nil] at e
      refine ⟨h3, fun k hk => (hsz.2.1 k hk).2, ?_⟩
      have hn : UInt8.ofNat n.toNat = n := UInt8.ofNat_toNat
      rcases h5 with rfl | rfl
      · simp only [beq_self_eq_true, if_true] at hln e
        unfold Tr.bytes
        rw [if_pos hln.2, hln.1, hn, ← e]
        rfl
      · have hf : ((2 : UInt8) == 1) = false := rfl
        simp only [hf, Bool.false_eq_true, if_false] at hln e
        unfold Tr.bytes
        rw [if_neg (by rcases h4 with h4 | h4; exact absurd rfl h4; exact h4), hln.2, hn, ← e]
        rfl
    · cases h
theorem decT_of {t : Tr} (hg : t.good = true) (hl : t.ids) : decT t.bytes = some t := by
  obtain ⟨hp4, hk3, h0, h1, _, _⟩ := tr_parts hg
  have hz : ∀ n : Nat, n ≤ 4 → (UInt8.ofNat n).toNat = n := fun n hn => ofNat_small (by omega)
  by_cases hk : t.kids.length = 0
  · have hb : t.bytes = 1 :: UInt8.ofNat t.pairs.length :: t.pairs.flatMap prB := by unfold Tr.bytes; rw [if_pos hk]; rfl
    have hs : tsteps true ⟨t.pairs.flatMap prB, false⟩ t.pairs.length = ⟨t.pairs, [], ⟨[], false⟩⟩ := by
      have := tsteps_prs t.pairs (fun p hp => by obtain ⟨i, hi, rfl⟩ := List.getElem_of_mem hp; exact pr_small hg hi) [] t.pairs.length (Nat.le_refl _)
      rw [List.append_nil, List.take_length, List.drop_length] at this
      exact this
    have hkn : t.kids = [] := List.eq_nil_of_length_eq_zero hk
    have ht : (⟨t.pairs, []⟩ : Tr) = t := by rw [← hkn]
    rw [hb]
    show decTB _ _ _ = _
    unfold decTB
    rw [hz _ hp4]
    simp only [beq_self_eq_true, hs, ht]
    rw [if_pos]
    unfold tOk
    simp only [ht, hg]
    rfl
  · have hb : t.bytes = 2 :: UInt8.ofNat t.kids.length :: t.kids.flatMap kdB := by unfold Tr.bytes; rw [if_neg hk]; rfl
    have hs : tsteps false ⟨t.kids.flatMap kdB, false⟩ t.kids.length = ⟨[], t.kids, ⟨[], false⟩⟩ := by
      have := tsteps_kds t.kids (fun p hp => by obtain ⟨i, hi, rfl⟩ := List.getElem_of_mem hp; exact ⟨(kd_small hg hi).1, hl _ hp, (kd_small hg hi).2⟩) [] t.kids.length (Nat.le_refl _)
      rw [List.append_nil, List.take_length, List.drop_length] at this
      exact this
    have hpn : t.pairs = [] := List.eq_nil_of_length_eq_zero (by omega)
    have ht : (⟨[], t.kids⟩ : Tr) = t := by rw [← hpn]
    have hf : ((2 : UInt8) == 1) = false := rfl
    rw [hb]
    show decTB _ _ _ = _
    unfold decTB
    rw [hz _ (by omega)]
    simp only [hf, hs, ht]
    rw [if_pos]
    unfold tOk
    simp only [ht, hg, beq_eq_false_iff_ne.2 hk]
    rfl

/-- Names one behind another. -/
structure ISt where
  ids : List (List UInt8)
  r : PR
def isteps (r : PR) : Nat → ISt
  | 0 => ⟨[], r⟩
  | k + 1 => ⟨(isteps r k).ids ++ [(pid (isteps r k).r).1], (pid (isteps r k).r).2⟩
theorem isteps_ok {r : PR} (h : r.Ok) : ∀ k, (isteps r k).r.Ok
  | 0 => h
  | k + 1 => (isteps_ok h k).pid
theorem isteps_len (r : PR) : ∀ k, (isteps r k).ids.length = k
  | 0 => rfl
  | k + 1 => by show ((isteps r k).ids ++ [_]).length = _; rw [List.length_append, isteps_len r k]; rfl
theorem isteps_sizes (r : PR) : ∀ k, (∀ p ∈ (isteps r k).ids, p.length = 33) ∧ (isteps r k).r.b.length ≤ r.b.length
  | 0 => ⟨fun p h => (by cases h), Nat.le_refl _⟩
  | k + 1 => by
    obtain ⟨h1, h2⟩ := isteps_sizes r k
    refine ⟨fun p hp => ?_, Nat.le_trans (pid_rest _) h2⟩
    have hp : p ∈ (isteps r k).ids ++ [_] := hp
    rcases List.mem_append.1 hp with hp | hp
    · exact h1 p hp
    · rw [List.mem_singleton] at hp; subst hp; exact pid_len _
theorem isteps_inv {r : PR} (hok : r.Ok) : ∀ k, (isteps r k).r.bad = false → r.bad = false ∧ r.b = (isteps r k).ids.flatMap idText ++ (isteps r k).r.b := by
  intro k
  induction k with
  | zero => intro h; exact ⟨h, rfl⟩
  | succ k ih =>
    intro hb
    have hb : (pid (isteps r k).r).2.bad = false := hb
    have hgk : (isteps r k).r.bad = false := by
      cases h : (isteps r k).r.bad with
      | false => rfl
      | true => rw [(isteps_ok hok k).eq h, pid_fail] at hb; cases hb
    obtain ⟨h0, e⟩ := ih hgk
    refine ⟨h0, ?_⟩
    show r.b = ((isteps r k).ids ++ [(pid (isteps r k).r).1]).flatMap idText ++ (pid (isteps r k).r).2.b
    obtain ⟨rb, rbad⟩ : ∃ rb rbad, (isteps r k).r = ⟨rb, rbad⟩ := ⟨_, _, rfl⟩
    generalize (isteps r k).r = q at hb hgk e rbad
    obtain ⟨qb, qbad⟩ := q
    simp only at hgk
    subst hgk
    obtain ⟨h1, _⟩ := pid_inv (x := (pid ⟨qb, false⟩).1) (r := (pid ⟨qb, false⟩).2) rfl hb
    rw [List.flatMap_append, e, List.append_assoc]
    simp only [List.flatMap_cons, List.flatMap_nil, List.append_nil]
    rw [← h1]
theorem isteps_of (xs : List (List UInt8)) (hs : ∀ x ∈ xs, x.length = 33 ∧ idGood x = true) (t : List UInt8) : ∀ k ≤ xs.length, isteps ⟨xs.flatMap idText ++ t, false⟩ k = ⟨xs.take k, ⟨(xs.drop k).flatMap idText ++ t, false⟩⟩ := by
  intro k
  induction k with
  | zero => intro _; rfl
  | succ k ih =>
    intro hk
    obtain ⟨h2, h3⟩ := hs _ (List.getElem_mem (show k < xs.length by omega))
    have e : isteps ⟨xs.flatMap idText ++ t, false⟩ (k + 1) = ⟨(isteps ⟨xs.flatMap idText ++ t, false⟩ k).ids ++ [(pid (isteps ⟨xs.flatMap idText ++ t, false⟩ k).r).1], (pid (isteps ⟨xs.flatMap idText ++ t, false⟩ k).r).2⟩ := rfl
    rw [e, ih (by omega), List.drop_eq_getElem_cons (show k < xs.length by omega), List.flatMap_cons, List.append_assoc, pid_of h2 h3]
    simp only
    rw [List.take_succ_eq_append_getElem (show k < xs.length by omega)]

/-- What is read behind a commit's head. -/
def cmSt (n : Nat) (b : List UInt8) : ISt := isteps (pid ⟨b, false⟩).2 n
def cmOf (n : Nat) (b : List UInt8) : Cm := ⟨(pid ⟨b, false⟩).1, (cmSt n b).ids, bstr ((cmSt n b).r.text 32).1, ((cmSt n b).r.text 32).2.int.1⟩
def cmR (n : Nat) (b : List UInt8) : PR := ((cmSt n b).r.text 32).2.int.2
def decCB (n : UInt8) (b : List UInt8) : Option Cm := if (!(cmR n.toNat b).bad && (cmR n.toNat b).b.length == 0) && (cmOf n.toNat b).good then some (cmOf n.toNat b) else none
/-- The commit of bytes. -/
def decC : List UInt8 → Option Cm
  | h :: n :: b => if h = 3 ∧ n.toNat ≤ 2 then decCB n b else none
  | _ => none
def Cm.ids (c : Cm) : Prop := c.root.length = 33 ∧ ∀ p ∈ c.parents, p.length = 33
theorem cm_ids {c : Cm} (h : c.good = true) : idGood c.root = true ∧ ∀ p ∈ c.parents, idGood p = true := by
  unfold Cm.good Cm.shape at h
  simp only [Bool.and_eq_true, List.all_eq_true, List.mem_range] at h
  refine ⟨h.1.2.2.2.2, fun p hp => ?_⟩
  obtain ⟨i, hi, rfl⟩ := List.getElem_of_mem hp
  have := h.2 i hi
  unfold paOk at this
  rw [paAt_get hi] at this
  simp only [Bool.and_eq_true] at this
  exact this.1
theorem decC_bytes {n : UInt8} {b x y : List UInt8} {r0 r1 r2 sr : PR} {ids : List (List UInt8)} {m : Nat} (hx : pid ⟨b, false⟩ = (x, r0)) (hs : isteps r0 n.toNat = ⟨ids, sr⟩) (hy : sr.text 32 = (y, r1)) (hm : r1.uint = (m, r2)) (h1 : r2.bad = false) (h2 : r2.b = []) :
    [3, UInt8.ofNat ids.length] ++ idText x ++ ids.flatMap idText ++ textB (blo (bstr y)) ++ intB (zag m) = 3 :: n :: b := by
  have hok0 : (PR.mk b false).Ok := fun h => by cases h
  have hr0 : r0.Ok := by have := hok0.pid; rw [hx] at this; exact this
  have hokI := isteps_ok hr0 n.toNat
  have hinv := isteps_inv hr0 n.toNat
  have hlen := isteps_len r0 n.toNat
  have hpi := pid_inv hx
  rw [hs] at hokI hinv hlen
  simp only at hokI hinv hlen
  have hr1 : r1.Ok := by have := hokI.text 32; rw [hy] at this; exact this
  have hb1 : r1.bad = false := by
    cases h : r1.bad with
    | false => rfl
    | true => rw [hr1.eq h, uint_fail] at hm; cases hm; cases h1
  have hbs : sr.bad = false := by
    cases h : sr.bad with
    | false => rfl
    | true => rw [hokI.eq h, text_fail] at hy; cases hy; cases hb1
  obtain ⟨hb0, e0⟩ := hinv hbs
  obtain ⟨e00, _⟩ := hpi hb0
  obtain ⟨r1b, r1bad⟩ := r1
  obtain ⟨srb, srbad⟩ := sr
  simp only at hb1 hbs e0
  subst hb1 hbs
  have e1 := text_inv hy rfl
  have e2 := uint_inv hm h1
  simp only at e1 e2
  rw [h2, List.append_nil] at e2
  rw [hlen, show UInt8.ofNat n.toNat = n from UInt8.ofNat_toNat, blo_bstr, intB, zig_zag, ← e2, e00, e0, e1]
  simp
theorem decC_good {bs : List UInt8} {c : Cm} (h : decC bs = some c) : c.good = true ∧ c.ids ∧ c.bytes = bs := by
  match bs, h with
  | hd :: n :: b, h =>
    have h' : (if hd = 3 ∧ n.toNat ≤ 2 then decCB n b else none) = some c := h
    clear h
    split at h'
    · rename_i hh
      obtain ⟨rfl, hn2⟩ := hh
      unfold decCB at h'
      split at h'
      · rename_i hok
        cases h'
        simp only [Bool.and_eq_true, Bool.not_eq_true', beq_iff_eq] at hok
        obtain ⟨⟨h1, h2⟩, h3⟩ := hok
        refine ⟨h3, ⟨pid_len _, fun p hp => (isteps_sizes _ _).1 p hp⟩, ?_⟩
        exact decC_bytes (x := (pid ⟨b, false⟩).1) (r0 := (pid ⟨b, false⟩).2) rfl (ids := (cmSt n.toNat b).ids) (sr := (cmSt n.toNat b).r) rfl (y := ((cmSt n.toNat b).r.text 32).1) (r1 := ((cmSt n.toNat b).r.text 32).2) rfl (m := ((cmSt n.toNat b).r.text 32).2.uint.1) (r2 := ((cmSt n.toNat b).r.text 32).2.uint.2) rfl h1 (List.eq_nil_of_length_eq_zero h2)
      · cases h'
    · cases h'
theorem decC_of {c : Cm} (hg : c.good = true) (hl : c.ids) : decC c.bytes = some c := by
  obtain ⟨hp2, hn32, h1, h2⟩ := cm_parts hg
  obtain ⟨hr, hps⟩ := cm_ids hg
  have hb : c.bytes = 3 :: UInt8.ofNat c.parents.length :: (idText c.root ++ (c.parents.flatMap idText ++ (textB (blo c.note) ++ (intB c.num ++ [])))) := by
    unfold Cm.bytes
    simp
  have hz : (UInt8.ofNat c.parents.length).toNat = c.parents.length := ofNat_small (by omega)
  have hs := isteps_of c.parents (fun p hp => ⟨hl.2 p hp, hps p hp⟩) (textB (blo c.note) ++ (intB c.num ++ [])) c.parents.length (Nat.le_refl _)
  rw [List.take_length, List.drop_length] at hs
  have hst : cmSt c.parents.length (idText c.root ++ (c.parents.flatMap idText ++ (textB (blo c.note) ++ (intB c.num ++ [])))) = ⟨c.parents, ⟨textB (blo c.note) ++ (intB c.num ++ []), false⟩⟩ := by
    unfold cmSt
    rw [pid_of hl.1 hr]
    exact hs
  have htx : PR.text ⟨textB (blo c.note) ++ (intB c.num ++ []), false⟩ 32 = (blo c.note, ⟨intB c.num ++ [], false⟩) := PR.text_of _ _ _ (by rw [blo_len]; omega) (by rw [blo_len]; omega)
  have hin := PR.int_of c.num (by omega) (by omega) [] false
  have hof : cmOf c.parents.length (idText c.root ++ (c.parents.flatMap idText ++ (textB (blo c.note) ++ (intB c.num ++ [])))) = c := by
    unfold cmOf
    rw [hst, pid_of hl.1 hr]
    simp only [htx, hin, bstr_blo]
  have hR : cmR c.parents.length (idText c.root ++ (c.parents.flatMap idText ++ (textB (blo c.note) ++ (intB c.num ++ [])))) = ⟨[], false⟩ := by
    unfold cmR
    rw [hst]
    simp only [htx, hin]
  rw [hb]
  show (if _ ∧ _ then decCB _ _ else none) = _
  rw [if_pos ⟨rfl, by rw [hz]; exact hp2⟩]
  unfold decCB
  rw [hz, hof, hR, hg]
  rfl
end Go.Proofs.YtcnhbodemabbdaaDoor
