/- Layer 7 in plain Lean: what is encoded is decoded; what is decoded is what its bytes begin with; cut, it isn't. -/
import Derived.Test.YtmfmpbeempjeoaaLeafRDecPure
import Derived.Test.YtmfmpbeempjeoaaLeafGreat
namespace Go.Proofs.Ytmfmpbeempjeoaa
set_option linter.unusedVariables false

theorem uint_back' {b : List UInt8} {m : Nat} {r : PR} (h : PR.uint ⟨b, false⟩ = (m, r)) (hg : r.bad = false) : b = uintB m ++ r.b := by
  unfold PR.uint at h
  cases hu : rUF 0 0 b with
  | none => simp only [hu] at h; cases h; cases hg
  | some q =>
    obtain ⟨x, t⟩ := q
    simp only [hu] at h
    cases h
    obtain ⟨n, hm, hb, _, _⟩ := rUF_back b 0 0 _ _ (by omega) hu
    simp only [Nat.pow_zero, Nat.mul_one, Nat.zero_add] at hm
    rw [hm]
    exact hb
theorem text_back' {b x : List UInt8} {most : Int} {r : PR} (h : PR.text ⟨b, false⟩ most = (x, r)) (hg : r.bad = false) : b = textB x ++ r.b := by
  unfold PR.text at h
  obtain ⟨m, q, hu⟩ : ∃ m q, PR.uint ⟨b, false⟩ = (m, q) := ⟨_, _, rfl⟩
  rw [hu] at h
  simp only at h
  split at h
  · cases h; cases hg
  · unfold PR.take at h
    split at h
    · cases h; cases hg
    · rename_i h1
      simp only [not_or, Int.not_lt, Bool.not_eq_true] at h1
      have hb := uint_back' hu h1.1
      have hl : m ≤ q.b.length := by omega
      cases h
      simp only [Int.toNat_natCast]
      rw [textB, List.length_take, Nat.min_eq_left hl, hb, List.append_assoc, List.take_append_drop]
theorem getD_take (xs : List ByteArray) {i k : Nat} (h : i < k) : (xs.take k).getD i ByteArray.empty = xs.getD i ByteArray.empty := by
  rw [List.getD_eq_getElem?_getD, List.getD_eq_getElem?_getD, List.getElem?_take, if_pos h]
theorem getD_app (xs ys : List ByteArray) {i : Nat} (h : i < xs.length) : (xs ++ ys).getD i ByteArray.empty = xs.getD i ByteArray.empty := by
  rw [List.getD_eq_getElem?_getD, List.getD_eq_getElem?_getD, List.getElem?_append_left h]
theorem getD_end (xs : List ByteArray) (y : ByteArray) {i : Nat} (h : i = xs.length) : (xs ++ [y]).getD i ByteArray.empty = y := by
  subst h
  rw [List.getD_eq_getElem?_getD, List.getElem?_append_right (Nat.le_refl _)]
  simp
theorem take_getD (xs : List ByteArray) {k : Nat} (h : k < xs.length) : xs.take k ++ [xs.getD k ByteArray.empty] = xs.take (k + 1) := by
  rw [List.take_succ_eq_append_getElem h, List.getD_eq_getElem?_getD, List.getElem?_eq_getElem h]
  rfl
theorem bl_small {s : ByteArray} {m : Nat} (h : s.size ≤ m) : ((bl s).length : Int) ≤ m := by rw [bl_len]; omega

theorem pairs_read (n : Nd) (hk : ∀ k < n.keys.length, (n.keys.getD k ByteArray.empty).size ≤ 48) (hv : n.leaf = true → n.vals.length = n.keys.length ∧ ∀ k < n.keys.length, (n.vals.getD k ByteArray.empty).size ≤ 160) :
    ∀ k ≤ n.keys.length, ∀ t, dpairs n.leaf ⟨n.pairsB k ++ t, false⟩ k = ⟨n.keys.take k, if n.leaf then n.vals.take k else [], ⟨t, false⟩⟩ := by
  intro k
  induction k with
  | zero =>
    intro _ t
    have : n.pairsB 0 = [] := rfl
    rw [this]
    cases n.leaf <;> simp [dpairs]
  | succ k ih =>
    intro hkl t
    have hks := hk k (by omega)
    have ht1 : ∀ r, PR.text ⟨textB (bl (n.keys.getD k ByteArray.empty)) ++ r, false⟩ 48 = (bl (n.keys.getD k ByteArray.empty), ⟨r, false⟩) := fun r => PR.text_of _ r 48 (bl_small hks) (by rw [bl_len]; omega)
    rw [Nd.pairsB_succ, List.append_assoc]
    show dstep n.leaf (dpairs n.leaf _ k) = _
    rw [ih (by omega), List.append_assoc]
    cases hl : n.leaf with
    | true =>
      obtain ⟨hvl, hvs⟩ := hv hl
      have hvk := hvs k (by omega)
      have ht2 : ∀ r, PR.text ⟨textB (bl (n.vals.getD k ByteArray.empty)) ++ r, false⟩ 160 = (bl (n.vals.getD k ByteArray.empty), ⟨r, false⟩) := fun r => PR.text_of _ r 160 (bl_small hvk) (by rw [bl_len]; omega)
      simp only [dstep, if_true, ht1, ht2]
      have e1 : bstr (bl (n.keys.getD k ByteArray.empty)) = n.keys.getD k ByteArray.empty := bstr_of _
      have e2 : bstr (bl (n.vals.getD k ByteArray.empty)) = n.vals.getD k ByteArray.empty := bstr_of _
      rw [e1, e2, take_getD _ (by omega), take_getD _ (by omega)]
    | false =>
      simp only [dstep, Bool.false_eq_true, if_false, List.nil_append, ht1]
      have e1 : bstr (bl (n.keys.getD k ByteArray.empty)) = n.keys.getD k ByteArray.empty := bstr_of _
      rw [e1, take_getD _ (by omega)]
theorem kids_read (ds : List Int) (hd : ∀ p ∈ ds, kidOk p = true) : ∀ k ≤ ds.length, ∀ t, dkids ⟨(ds.take k).flatMap kidB ++ t, false⟩ k = ⟨ds.take k, ⟨t, false⟩⟩ := by
  intro k
  induction k with
  | zero => intro _ t; simp [dkids]
  | succ k ih =>
    intro hk t
    have hlt : k < ds.length := by omega
    have hp := hd _ (List.getElem_mem hlt)
    unfold kidOk at hp
    simp only [Bool.and_eq_true, decide_eq_true_eq] at hp
    rw [List.take_succ_eq_append_getElem hlt, List.flatMap_append, List.append_assoc]
    show kstep (dkids _ k) = _
    rw [ih (by omega)]
    have e : [ds[k]].flatMap kidB = uintB ds[k].toNat := by simp [kidB]
    rw [e]
    unfold kstep
    rw [PR.uint_of _ (by omega)]
    simp only
    rw [Nat.min_eq_left (by omega), Int.toNat_of_nonneg (by omega)]
theorem pairs_len (n : Nd) (k : Nat) : k ≤ (n.pairsB k).length := by
  induction k with
  | zero => exact Nat.zero_le _
  | succ k ih =>
    rw [Nd.pairsB_succ, List.length_append, List.length_append]
    have : 0 < (textB (bl (n.keys.getD k ByteArray.empty))).length := by
      unfold textB
      rw [List.length_append]
      have := uintB_pos (bl (n.keys.getD k ByteArray.empty)).length
      omega
    omega
theorem good_key {n : Nd} (h : n.good = true) {k : Nat} (hk : k < n.keys.length) : (n.keys.getD k ByteArray.empty).size ≤ 48 := by
  have h1 := (good_parts h).2.1
  unfold Nd.keysOk at h1
  have h2 := List.all_eq_true.1 h1 k (List.mem_range.2 hk)
  unfold Nd.keyOk at h2
  simp only [Bool.and_eq_true, decide_eq_true_eq] at h2
  exact h2.1
theorem good_val {n : Nd} (h : n.good = true) {k : Nat} (hk : k < n.vals.length) : (n.vals.getD k ByteArray.empty).size ≤ 160 := by
  have h1 := (good_parts h).2.2.1
  unfold Nd.valsOk at h1
  have h2 := List.all_eq_true.1 h1 _ (List.getElem_mem hk)
  rw [List.getD_eq_getElem?_getD, List.getElem?_eq_getElem hk]
  simpa using h2
theorem good_shp {n : Nd} (h : n.good = true) : if n.leaf then n.vals.length = n.keys.length ∧ n.kids = [] else n.kids.length = n.keys.length + 1 ∧ n.vals = [] := by
  have h1 := (good_parts h).1
  unfold Nd.shape at h1
  cases hl : n.leaf with
  | true => rw [hl] at h1; simp only [if_true, Bool.and_eq_true, beq_iff_eq, List.length_eq_zero_iff] at h1 ⊢; exact h1
  | false => rw [hl] at h1; simp only [Bool.false_eq_true, if_false, Bool.and_eq_true, beq_iff_eq, List.length_eq_zero_iff] at h1 ⊢; exact h1

/-- What is encoded is decoded, whatever stands behind it. -/
theorem dec_of {n : Nd} (h : n.good = true) (hl : n.bytes.length ≤ 512) (t : List UInt8) : dec (n.bytes ++ t) = some n := by
  have hs := good_shp h
  have hK : n.keys.length ≤ 512 := by
    have := pairs_len n n.keys.length
    unfold Nd.bytes at hl
    rw [List.length_append, List.length_append] at hl
    omega
  have hhead : n.headN < 2 ^ 64 := by
    unfold Nd.headN
    split <;> omega
  have hb : n.bytes ++ t = uintB n.headN ++ (n.pairsB n.keys.length ++ (n.kids.flatMap kidB ++ t)) := by
    unfold Nd.bytes
    simp only [List.append_assoc]
  have hu : PR.uint ⟨n.bytes ++ t, false⟩ = (n.headN, ⟨n.pairsB n.keys.length ++ (n.kids.flatMap kidB ++ t), false⟩) := by
    rw [hb]
    exact PR.uint_of _ hhead _ _
  have h2 : n.headN / 2 = n.keys.length := by
    unfold Nd.headN
    split <;> omega
  have h3 : (n.headN % 2 == 1) = n.leaf := by
    unfold Nd.headN
    cases n.leaf with
    | true => simp only [if_true]; rw [beq_iff_eq]; omega
    | false => simp only [Bool.false_eq_true, if_false]; rw [beq_eq_false_iff_ne]; omega
  unfold dec
  rw [hu]
  simp only [Bool.false_or]
  rw [h2, h3, decide_eq_false (by omega), if_neg (by decide)]
  have hp := pairs_read n (fun k hk => good_key h hk) (fun hle => by
    rw [hle, if_pos rfl] at hs
    exact ⟨hs.1, fun k hk => good_val h (by omega)⟩) n.keys.length (Nat.le_refl _) (n.kids.flatMap kidB ++ t)
  unfold decTail
  rw [hp, List.take_length]
  cases hle : n.leaf with
  | true =>
    rw [hle, if_pos rfl] at hs
    have e : n.vals.take n.keys.length = n.vals := by rw [← hs.1, List.take_length]
    simp only [if_true, e]
    have en : (⟨true, n.keys, n.vals, []⟩ : Nd) = n := by
      cases n
      simp only at hle hs
      rw [← hle, hs.2]
    rw [en, h]
    rfl
  | false =>
    rw [hle, if_neg (by decide)] at hs
    have hkr := kids_read n.kids (fun p hp => List.all_eq_true.1 (good_parts h).2.2.2 p hp) (n.keys.length + 1) (by omega) t
    rw [← hs.1, List.take_length] at hkr
    simp only [Bool.false_eq_true, if_false]
    rw [← hs.1, hkr]
    have en : (⟨false, n.keys, [], n.kids⟩ : Nd) = n := by
      cases n
      simp only at hle hs
      rw [← hle, hs.2]
    rw [en, h]
    rfl

theorem pairsB_app (l : Bool) (ks vs ys : List ByteArray) (x : ByteArray) (ds ds' : List Int) (hv : l = true → vs.length = ks.length) : ∀ j ≤ ks.length, Nd.pairsB ⟨l, ks ++ [x], vs ++ ys, ds⟩ j = Nd.pairsB ⟨l, ks, vs, ds'⟩ j := by
  intro j
  induction j with
  | zero => intro _; rfl
  | succ j ih =>
    intro hj
    rw [Nd.pairsB_succ, Nd.pairsB_succ, ih (by omega)]
    simp only
    rw [getD_app _ _ (by omega)]
    cases l with
    | true => rw [getD_app vs ys (by have := hv rfl; omega)]
    | false => rfl
theorem dpairs_back (l : Bool) {b : List UInt8} (k : Nat) (hb : (dpairs l ⟨b, false⟩ k).r.bad = false) : b = Nd.pairsB ⟨l, (dpairs l ⟨b, false⟩ k).ks, (dpairs l ⟨b, false⟩ k).vs, []⟩ k ++ (dpairs l ⟨b, false⟩ k).r.b := by
  have hok : PR.Ok ⟨b, false⟩ := fun h => by cases h
  induction k with
  | zero => rfl
  | succ k ih =>
    have hk : (dpairs l ⟨b, false⟩ k).r.bad = false := by
      cases h : (dpairs l ⟨b, false⟩ k).r.bad with
      | false => rfl
      | true => rw [dpairs_bad l hok (Nat.le_succ k) h] at hb; cases hb
    replace ih := ih hk
    have hlk := dpairs_ks l ⟨b, false⟩ k
    have hlv : l = true → (dpairs l ⟨b, false⟩ k).vs.length = (dpairs l ⟨b, false⟩ k).ks.length := by
      rintro rfl
      rw [dpairs_vs, dpairs_ks]
    have ho := dpairs_ok l hok k
    show b = Nd.pairsB ⟨l, (dstep l (dpairs l ⟨b, false⟩ k)).ks, (dstep l (dpairs l ⟨b, false⟩ k)).vs, []⟩ (k + 1) ++ (dstep l (dpairs l ⟨b, false⟩ k)).r.b
    have hb' : (dstep l (dpairs l ⟨b, false⟩ k)).r.bad = false := hb
    generalize dpairs l ⟨b, false⟩ k = D at *
    obtain ⟨ks, vs, ⟨q, bad⟩⟩ := D
    simp only at hk ih hlk hlv ho
    subst hk
    cases l with
    | true =>
      simp only [dstep, if_true] at hb' ⊢
      obtain ⟨x, r1, h1⟩ : ∃ x r1, PR.text ⟨q, false⟩ 48 = (x, r1) := ⟨_, _, rfl⟩
      rw [h1] at hb' ⊢
      simp only at hb' ⊢
      have hr1 : r1.bad = false := by
        cases h : r1.bad with
        | false => rfl
        | true =>
          have ho1 : r1.Ok := by have := ho.text 48; rw [h1] at this; exact this
          rw [ho1.text_stays h] at hb'; cases hb'
      have e1 := text_back' h1 hr1
      obtain ⟨q1, bad1⟩ := r1
      simp only at hr1 e1
      subst hr1
      obtain ⟨y, r2, h2⟩ : ∃ y r2, PR.text ⟨q1, false⟩ 160 = (y, r2) := ⟨_, _, rfl⟩
      rw [h2] at hb' ⊢
      simp only at hb' ⊢
      have e2 := text_back' h2 hb'
      rw [Nd.pairsB_succ, pairsB_app true ks vs _ _ _ [] hlv k (by omega)]
      simp only [if_true]
      rw [getD_end ks _ hlk.symm, getD_end vs _ (by rw [hlv rfl, hlk])]
      have b1 : bl (bstr x) = x := bstr_data x
      have b2 : bl (bstr y) = y := bstr_data y
      rw [b1, b2, List.append_assoc, List.append_assoc, ← e2, ← e1]
      exact ih
    | false =>
      simp only [dstep, Bool.false_eq_true, if_false] at hb' ⊢
      obtain ⟨x, r1, h1⟩ : ∃ x r1, PR.text ⟨q, false⟩ 48 = (x, r1) := ⟨_, _, rfl⟩
      rw [h1] at hb' ⊢
      simp only at hb' ⊢
      have e1 := text_back' h1 hb'
      have hap := pairsB_app false ks vs [] (bstr x) [] [] (by intro h; cases h) k (by omega)
      rw [List.append_nil] at hap
      rw [Nd.pairsB_succ, hap]
      simp only [Bool.false_eq_true, if_false, List.append_nil]
      rw [getD_end ks _ hlk.symm]
      have b1 : bl (bstr x) = x := bstr_data x
      rw [b1, List.append_assoc, ← e1]
      exact ih
theorem dkids_back {b : List UInt8} (k : Nat) (hb : (dkids ⟨b, false⟩ k).r.bad = false) (hg : ∀ p ∈ (dkids ⟨b, false⟩ k).ds, kidOk p = true) : b = (dkids ⟨b, false⟩ k).ds.flatMap kidB ++ (dkids ⟨b, false⟩ k).r.b := by
  have hok : PR.Ok ⟨b, false⟩ := fun h => by cases h
  induction k with
  | zero => rfl
  | succ k ih =>
    have hk : (dkids ⟨b, false⟩ k).r.bad = false := by
      cases h : (dkids ⟨b, false⟩ k).r.bad with
      | false => rfl
      | true => rw [dkids_bad hok (Nat.le_succ k) h] at hb; cases hb
    have hb' : (kstep (dkids ⟨b, false⟩ k)).r.bad = false := hb
    have hg' : ∀ p ∈ (kstep (dkids ⟨b, false⟩ k)).ds, kidOk p = true := hg
    replace ih := ih hk fun p hp => hg' p (List.mem_append_left _ hp)
    show b = (kstep (dkids ⟨b, false⟩ k)).ds.flatMap kidB ++ (kstep (dkids ⟨b, false⟩ k)).r.b
    generalize dkids ⟨b, false⟩ k = D at *
    obtain ⟨ds, ⟨q, bad⟩⟩ := D
    simp only at hk ih
    subst hk
    obtain ⟨m, r1, h1⟩ : ∃ m r1, PR.uint ⟨q, false⟩ = (m, r1) := ⟨_, _, rfl⟩
    have hlast := hg' ((min m 4096 : Nat) : Int) (by unfold kstep; rw [h1]; simp)
    unfold kstep at hb' ⊢
    rw [h1] at hb' ⊢
    simp only at hb' ⊢
    have e1 := uint_back' h1 hb'
    unfold kidOk at hlast
    simp only [Bool.and_eq_true, decide_eq_true_eq] at hlast
    have hm : min m 4096 = m := by omega
    have e : [((min m 4096 : Nat) : Int)].flatMap kidB = uintB m := by
      rw [hm]
      simp [kidB]
    rw [List.flatMap_append, e, List.append_assoc, ← e1]
    exact ih

/-- What is decoded is what its bytes begin with. -/
theorem dec_back {bs : List UInt8} {n : Nd} (h : dec bs = some n) : n.good = true ∧ ∃ t, bs = n.bytes ++ t := by
  unfold dec at h
  obtain ⟨m, r0, hu⟩ : ∃ m r0, PR.uint ⟨bs, false⟩ = (m, r0) := ⟨_, _, rfl⟩
  rw [hu] at h
  simp only at h
  split at h
  · cases h
  rename_i hc
  simp only [Bool.or_eq_true, decide_eq_true_eq, not_or, Bool.not_eq_true] at hc
  obtain ⟨hb0, hcnt⟩ := hc
  have hhead := uint_back' hu hb0
  obtain ⟨b, bad⟩ := r0
  simp only at hb0 hhead
  subst hb0
  have hok : PR.Ok ⟨b, false⟩ := fun h => by cases h
  unfold decTail at h
  by_cases hl : m % 2 = 1
  · rw [beq_iff_eq.2 hl] at h
    simp only [if_true] at h
    split at h
    · cases h
    rename_i hc
    simp only [Bool.or_eq_true, Bool.not_eq_true', not_or, Bool.not_eq_false, Bool.not_eq_true] at hc
    obtain ⟨hbad, hg⟩ := hc
    cases h
    refine ⟨hg, (dpairs true ⟨b, false⟩ (m / 2)).r.b, ?_⟩
    have h1 := dpairs_back true (m / 2) hbad
    unfold Nd.bytes Nd.headN
    simp only [if_true, dpairs_ks, List.flatMap_nil, List.append_nil]
    rw [show 2 * (m / 2) + 1 = m by omega, List.append_assoc, ← h1]
    exact hhead
  · rw [beq_eq_false_iff_ne.2 hl] at h
    simp only [Bool.false_eq_true, if_false] at h
    split at h
    · cases h
    rename_i hc
    simp only [Bool.or_eq_true, Bool.not_eq_true', not_or, Bool.not_eq_false, Bool.not_eq_true] at hc
    obtain ⟨hbad, hg⟩ := hc
    cases h
    have hbp : (dpairs false ⟨b, false⟩ (m / 2)).r.bad = false := by
      cases hx : (dpairs false ⟨b, false⟩ (m / 2)).r.bad with
      | false => rfl
      | true => rw [dkids_bad (dpairs_ok false hok (m / 2)) (j := 0) (Nat.zero_le _) hx] at hbad; cases hbad
    have h1 := dpairs_back false (m / 2) hbp
    have hgk := (good_parts hg).2.2.2
    have hpe : (dpairs false ⟨b, false⟩ (m / 2)).r = ⟨(dpairs false ⟨b, false⟩ (m / 2)).r.b, false⟩ := by
      cases hx : (dpairs false ⟨b, false⟩ (m / 2)).r with
      | mk q bad => rw [hx] at hbp; simp only at hbp; rw [hbp]
    have h2 := dkids_back (b := (dpairs false ⟨b, false⟩ (m / 2)).r.b) (m / 2 + 1) (by rw [← hpe]; exact hbad) (fun p hp => by
      rw [← hpe] at hp
      exact List.all_eq_true.1 hgk p hp)
    rw [← hpe] at h2
    refine ⟨hg, (dkids (dpairs false ⟨b, false⟩ (m / 2)).r (m / 2 + 1)).r.b, ?_⟩
    unfold Nd.bytes Nd.headN
    simp only [Bool.false_eq_true, if_false, dpairs_ks, Nat.add_zero]
    rw [show 2 * (m / 2) = m by omega, List.append_assoc, List.append_assoc, ← h2]
    exact hhead.trans (congrArg (uintB m ++ ·) h1)
/-- Cut by its last byte, it isn't decoded. -/
theorem dec_cut {n : Nd} (h : n.good = true) (hl : n.bytes.length ≤ 512) {k : Nat} (hk : k < n.bytes.length) : dec (n.bytes.take k) = none := by
  cases hd : dec (n.bytes.take k) with
  | none => rfl
  | some m =>
    obtain ⟨hg, t, ht⟩ := dec_back hd
    have hlen := congrArg List.length ht
    rw [List.length_take, List.length_append, Nat.min_eq_left (by omega)] at hlen
    have e : n.bytes = m.bytes ++ (t ++ n.bytes.drop k) := by
      rw [← List.append_assoc, ← ht, List.take_append_drop]
    have h1 := dec_of hg (by omega) (t ++ n.bytes.drop k)
    have h2 := dec_of h hl []
    rw [List.append_nil] at h2
    rw [← e, h2] at h1
    cases h1
    omega
end Go.Proofs.Ytmfmpbeempjeoaa
