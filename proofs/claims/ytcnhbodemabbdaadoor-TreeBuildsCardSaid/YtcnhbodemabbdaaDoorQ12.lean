/- Layer 15 in plain Lean: trees' and commits' objects, whether one can be, its bytes. -/
import Derived.Test.YtcnhbodemabbdaaDoorQ10
import Derived.Test.YtcnhbodemabbdaaDoorQ11
namespace Go.Proofs.YtcnhbodemabbdaaDoor
set_option linter.unusedVariables false

abbrev Pr := ByteArray × ByteArray
abbrev Kd := ByteArray × List UInt8
/-- A tree's object. -/
structure Tr where
  pairs : List Pr
  kids : List Kd
/-- A commit. -/
structure Cm where
  root : List UInt8
  parents : List (List UInt8)
  note : ByteArray
  num : Int
def bslt (a b : ByteArray) : Bool := Op.bytesLess a.toList b.toList
theorem less_tot : ∀ x y : List UInt8, (!Op.bytesLess x y) = (Op.bytesLess y x || y == x)
  | [], [] => rfl
  | [], _ :: _ => rfl
  | _ :: _, [] => rfl
  | a :: x, b :: y => by
    have ih := less_tot x y
    simp only [Op.bytesLess, List.cons_beq_cons]
    by_cases h1 : a < b
    · have h2 : ¬ b < a := fun h => UInt8.lt_irrefl _ (UInt8.lt_trans h1 h)
      have h3 : (b == a) = false := by rw [beq_eq_false_iff_ne]; rintro rfl; exact UInt8.lt_irrefl _ h1
      simp [h1, h2, h3]
    · by_cases h2 : b < a
      · have h3 : (a == b) = false := by rw [beq_eq_false_iff_ne]; rintro rfl; exact UInt8.lt_irrefl _ h2
        simp [h1, h2, h3]
      · have e : a = b := UInt8.le_antisymm (UInt8.not_lt.1 h2) (UInt8.not_lt.1 h1)
        subst e
        simpa using ih
def prAt (ps : List Pr) (i : Nat) : Pr := ps.getD i (ByteArray.empty, ByteArray.empty)
def kdAt (ks : List Kd) (i : Nat) : Kd := ks.getD i (ByteArray.empty, [])
def prOk (ps : List Pr) (i : Nat) : Bool := decide ((prAt ps i).1.size ≤ 16) && (decide ((prAt ps i).2.size ≤ 16) && (i == 0 || bslt (prAt ps (i - 1)).1 (prAt ps i).1))
def kdOk (ks : List Kd) (i : Nat) : Bool :=
  decide ((kdAt ks i).1.size ≤ 16) && (idGood (kdAt ks i).2 && (idKind (kdAt ks i).2 == idKind (kdAt ks 0).2 && (i == 0 || bslt (kdAt ks (i - 1)).1 (kdAt ks i).1)))
def Tr.shape (t : Tr) : Bool := decide (t.pairs.length ≤ 4) && (decide (t.kids.length ≤ 3) && (!(decide (0 < t.pairs.length) && decide (0 < t.kids.length)) && !(t.kids.length == 1)))
/-- Whether a tree's object can be. -/
def Tr.good (t : Tr) : Bool := t.shape && ((List.range t.pairs.length).all (prOk t.pairs) && (List.range t.kids.length).all (kdOk t.kids))
def paOk (c : Cm) (i : Nat) : Bool := idGood (c.parents.getD i []) && (idKind (c.parents.getD i []) == idKind c.root && (i == 0 || !(c.parents.getD (i - 1) [] == c.parents.getD i [])))
def Cm.shape (c : Cm) : Bool := decide (c.parents.length ≤ 2) && (decide (c.note.size ≤ 32) && (decide (1 ≤ c.num) && (decide (c.num ≤ 1024) && idGood c.root)))
/-- Whether a commit can be. -/
def Cm.good (c : Cm) : Bool := c.shape && (List.range c.parents.length).all (paOk c)

def blo (s : ByteArray) : List UInt8 := s.data.toList
def prB (p : Pr) : List UInt8 := textB (blo p.1) ++ textB (blo p.2)
def kdB (k : Kd) : List UInt8 := textB (blo k.1) ++ idText k.2
/-- A tree's bytes. -/
def Tr.bytes (t : Tr) : List UInt8 :=
  if t.kids.length = 0 then [1, UInt8.ofNat t.pairs.length] ++ t.pairs.flatMap prB else [2, UInt8.ofNat t.kids.length] ++ t.kids.flatMap kdB
/-- A commit's bytes. -/
def Cm.bytes (c : Cm) : List UInt8 := [3, UInt8.ofNat c.parents.length] ++ idText c.root ++ c.parents.flatMap idText ++ textB (blo c.note) ++ intB c.num
end Go.Proofs.YtcnhbodemabbdaaDoor
/- Layer 16 in plain Lean: a tree of pairs, its objects. -/
namespace Go.Proofs.YtcnhbodemabbdaaDoor
set_option linter.unusedVariables false

abbrev Ent2 := List UInt8 × ByteArray
def objT (k : UInt8) (t : Tr) : Ent2 := (idPad (idName k t.bytes), bstr t.bytes)
def leafT (ps : List Pr) : Tr := ⟨ps, []⟩
def upT (ks : List Kd) : Tr := ⟨[], ks⟩
def headP (ps : List Pr) : ByteArray := match ps with | [] => ByteArray.empty | p :: _ => p.1
def headK (ks : List Kd) : ByteArray := match ks with | [] => ByteArray.empty | p :: _ => p.1
def chunks (ps : List Pr) : List (List Pr) := if ps.length ≤ 4 then [ps] else ps.take 4 :: chunks (ps.drop 4)
termination_by ps.length
decreasing_by simp only [List.length_drop]; omega
theorem chunks_le {ps : List Pr} (h : ps.length ≤ 4) : chunks ps = [ps] := by rw [chunks, if_pos h]
theorem chunks_gt {ps : List Pr} (h : ¬ ps.length ≤ 4) : chunks ps = ps.take 4 :: chunks (ps.drop 4) := by rw [chunks, if_neg h]
def leafO (k : UInt8) (ps : List Pr) : List Ent2 := (chunks ps).map fun c => objT k (leafT c)
def leafR (k : UInt8) (ps : List Pr) : List Kd := (chunks ps).map fun c => (headP c, (objT k (leafT c)).1)
def grp (n : Nat) : Nat := if n = 4 ∨ n = 2 then 2 else min n 3
theorem grp_pos {n : Nat} (h : 0 < n) : 0 < grp n := by unfold grp; split <;> omega
theorem grp_le (n : Nat) : grp n ≤ n := by unfold grp; split <;> omega
theorem grp_3 (n : Nat) : grp n ≤ 3 := by unfold grp; split <;> omega
theorem grp_2 {n : Nat} (h : 2 ≤ n) : 2 ≤ grp n := by unfold grp; split <;> omega
theorem grp_rest {n : Nat} (h : 2 ≤ n) : n - grp n ≠ 1 := by unfold grp; split <;> omega
/-- One row's objects, and the row above it. -/
def upRow (k : UInt8) (row : List Kd) : List Ent2 × List Kd :=
  if h : row.length = 0 then ([], []) else
    (objT k (upT (row.take (grp row.length))) :: (upRow k (row.drop (grp row.length))).1, (headK row, (objT k (upT (row.take (grp row.length)))).1) :: (upRow k (row.drop (grp row.length))).2)
termination_by row.length
decreasing_by all_goals (simp only [List.length_drop]; have := grp_pos (n := row.length) (by omega); omega)
theorem upRow_nil (k : UInt8) : upRow k [] = ([], []) := by rw [upRow]; exact dif_pos rfl
theorem upRow_step (k : UInt8) {row : List Kd} (h : row.length ≠ 0) : upRow k row = (objT k (upT (row.take (grp row.length))) :: (upRow k (row.drop (grp row.length))).1, (headK row, (objT k (upT (row.take (grp row.length)))).1) :: (upRow k (row.drop (grp row.length))).2) := by
  rw [upRow, dif_neg h]
theorem upRow_len (k : UInt8) : ∀ (n : Nat) (row : List Kd), row.length ≤ n → row.length ≠ 1 → (upRow k row).2.length = (row.length + 2) / 3 ∧ (upRow k row).1.length = (row.length + 2) / 3
  | 0, row, h, _ => by
    have : row = [] := List.eq_nil_of_length_eq_zero (by omega)
    subst this
    rw [upRow_nil]
    exact ⟨rfl, rfl⟩
  | n + 1, row, h, h1 => by
    by_cases h0 : row.length = 0
    · have : row = [] := List.eq_nil_of_length_eq_zero h0
      subst this
      rw [upRow_nil]
      exact ⟨rfl, rfl⟩
    · rw [upRow_step k h0]
      have hg := grp_pos (n := row.length) (by omega)
      have hr := grp_rest (n := row.length) (by omega)
      have hgl := grp_le row.length
      obtain ⟨e1, e2⟩ := upRow_len k n (row.drop (grp row.length)) (by rw [List.length_drop]; omega) (by rw [List.length_drop]; exact hr)
      rw [List.length_drop] at e1 e2
      simp only [List.length_cons, e1, e2]
      unfold grp at *
      split <;> omega
theorem upRow_less (k : UInt8) {row : List Kd} (h : 1 < row.length) : (upRow k row).2.length < row.length := by
  rw [(upRow_len k row.length row (Nat.le_refl _) (by omega)).1]
  omega
def upAll (k : UInt8) (row : List Kd) : List Ent2 × List UInt8 :=
  if h : 1 < row.length then ((upRow k row).1 ++ (upAll k (upRow k row).2).1, (upAll k (upRow k row).2).2) else ([], (row.getD 0 (ByteArray.empty, idNone)).2)
termination_by row.length
decreasing_by all_goals exact upRow_less k h
theorem upAll_one (k : UInt8) {row : List Kd} (h : ¬ 1 < row.length) : upAll k row = ([], (row.getD 0 (ByteArray.empty, idNone)).2) := by rw [upAll, dif_neg h]
theorem upAll_more (k : UInt8) {row : List Kd} (h : 1 < row.length) : upAll k row = ((upRow k row).1 ++ (upAll k (upRow k row).2).1, (upAll k (upRow k row).2).2) := by rw [upAll, dif_pos h]
/-- The tree's objects, its own last; its name. -/
def buildT (k : UInt8) (ps : List Pr) : List Ent2 × List UInt8 := (leafO k ps ++ (upAll k (leafR k ps)).1, (upAll k (leafR k ps)).2)
def goodT (ps : List Pr) : Bool := decide (ps.length ≤ 256) && (List.range ps.length).all (prOk ps)
/-- A row that is fit to be put together. -/
structure RowOk (k : UInt8) (row : List Kd) : Prop where
  each : ∀ x ∈ row, x.1.size ≤ 16 ∧ x.2.length = 33 ∧ idGood x.2 = true ∧ idKind x.2 = k
  rise : row.Pairwise fun a b => bslt a.1 b.1 = true
theorem RowOk.take {k : UInt8} {row : List Kd} (h : RowOk k row) (n : Nat) : RowOk k (row.take n) := ⟨fun x hx => h.each x (List.mem_of_mem_take hx), h.rise.sublist (List.take_sublist _ _)⟩
theorem RowOk.drop {k : UInt8} {row : List Kd} (h : RowOk k row) (n : Nat) : RowOk k (row.drop n) := ⟨fun x hx => h.each x (List.mem_of_mem_drop hx), h.rise.sublist (List.drop_sublist _ _)⟩
theorem obj_id (k : UInt8) (hk : 0 < idN k) (t : Tr) : (objT k t).1.length = 33 ∧ idGood (objT k t).1 = true ∧ idKind (objT k t).1 = k := by
  have hc := idName_can (k := k) t.bytes hk
  refine ⟨idPad_len (idName_len _ _), (idCan_pad hc).1, ?_⟩
  show idKind (idPad (idName k t.bytes)) = k
  have h2 : k = 1 ∨ k = 2 := by
    by_cases h1 : k = 1
    · exact .inl h1
    · by_cases h2 : k = 2
      · exact .inr h2
      · rw [idN_other h1 h2] at hk
        cases hk
  rcases h2 with rfl | rfl
  · unfold idName
    rw [if_pos rfl]
    rfl
  · unfold idName
    rw [if_neg (by decide), if_pos rfl]
    rfl
theorem kdAt_getT {ks : List Kd} {i : Nat} (h : i < ks.length) : kdAt ks i = ks[i] := by unfold kdAt; rw [List.getD_eq_getElem?_getD, List.getElem?_eq_getElem h]; rfl
theorem upT_good {k : UInt8} (hk : 0 < idN k) {row : List Kd} (h : RowOk k row) (h2 : 2 ≤ row.length) (h3 : row.length ≤ 3) : (upT row).good = true := by
  unfold Tr.good Tr.shape upT
  simp only [Bool.and_eq_true, decide_eq_true_eq, List.length_nil, Bool.not_eq_true', Bool.and_eq_false_imp, beq_eq_false_iff_ne]
  refine ⟨⟨by omega, h3, ⟨fun hf => absurd hf (by omega), by omega⟩⟩, by simp, ?_⟩
  rw [List.all_eq_true]
  intro i hi
  rw [List.mem_range] at hi
  have e0 := h.each _ (List.getElem_mem (show 0 < row.length by omega))
  have ei := h.each _ (List.getElem_mem hi)
  unfold kdOk
  rw [kdAt_getT hi, kdAt_getT (show 0 < row.length by omega)]
  simp only [Bool.and_eq_true, decide_eq_true_eq, beq_iff_eq, Bool.or_eq_true]
  refine ⟨ei.1, ei.2.2.1, by rw [ei.2.2.2, e0.2.2.2], ?_⟩
  by_cases hi0 : i = 0
  · exact .inl hi0
  · right
    rw [kdAt_getT (show i - 1 < row.length by omega)]
    exact List.pairwise_iff_getElem.1 h.rise (i - 1) i (by omega) hi (by omega)
/-- Pairs by rising keys, none too long. -/
structure PrsOk (ps : List Pr) : Prop where
  each : ∀ x ∈ ps, x.1.size ≤ 16 ∧ x.2.size ≤ 16
  rise : ps.Pairwise fun a b => bslt a.1 b.1 = true
theorem PrsOk.take {ps : List Pr} (h : PrsOk ps) (n : Nat) : PrsOk (ps.take n) := ⟨fun x hx => h.each x (List.mem_of_mem_take hx), h.rise.sublist (List.take_sublist _ _)⟩
theorem PrsOk.drop {ps : List Pr} (h : PrsOk ps) (n : Nat) : PrsOk (ps.drop n) := ⟨fun x hx => h.each x (List.mem_of_mem_drop hx), h.rise.sublist (List.drop_sublist _ _)⟩
theorem prAt_get' {ps : List Pr} {i : Nat} (h : i < ps.length) : prAt ps i = ps[i] := by unfold prAt; rw [List.getD_eq_getElem?_getD, List.getElem?_eq_getElem h]; rfl
theorem bless_trans : ∀ {x y z : List UInt8}, Op.bytesLess x y = true → Op.bytesLess y z = true → Op.bytesLess x z = true
  | [], [], _, h, _ => by cases h
  | [], _ :: _, [], _, h => by cases h
  | [], _ :: _, _ :: _, _, _ => rfl
  | _ :: _, [], _, h, _ => by cases h
  | _ :: _, _ :: _, [], _, h => by cases h
  | a :: x, b :: y, c :: z, h, k => by
    simp only [Op.bytesLess, Bool.or_eq_true, decide_eq_true_eq, Bool.and_eq_true, beq_iff_eq] at h k ⊢
    rcases h with h | ⟨rfl, h⟩
    · rcases k with k | ⟨rfl, k⟩
      · exact .inl (UInt8.lt_trans h k)
      · exact .inl h
    · rcases k with k | ⟨rfl, k⟩
      · exact .inl k
      · exact .inr ⟨rfl, bless_trans h k⟩
theorem prs_ok {ps : List Pr} (h : (List.range ps.length).all (prOk ps) = true) : PrsOk ps := by
  have hi : ∀ i (h : i < ps.length), ps[i].1.size ≤ 16 ∧ ps[i].2.size ≤ 16 ∧ (i ≠ 0 → bslt (ps[i - 1]).1 ps[i].1 = true) := fun i hi => by
    have h1 := List.all_eq_true.1 h i (List.mem_range.2 hi)
    unfold prOk at h1
    rw [prAt_get' hi, prAt_get' (show i - 1 < ps.length by omega)] at h1
    simp only [Bool.and_eq_true, decide_eq_true_eq, Bool.or_eq_true, beq_iff_eq] at h1
    exact ⟨h1.1, h1.2.1, fun hne => h1.2.2.resolve_left hne⟩
  refine ⟨fun x hx => ?_, ?_⟩
  · obtain ⟨i, hl, rfl⟩ := List.getElem_of_mem hx
    exact ⟨(hi i hl).1, (hi i hl).2.1⟩
  · rw [List.pairwise_iff_getElem]
    intro i j h1 h2 hij
    obtain ⟨d, rfl⟩ : ∃ d, j = i + 1 + d := ⟨j - (i + 1), by omega⟩
    clear hij
    induction d with
    | zero => exact (hi (i + 1) h2).2.2 (by omega)
    | succ d ih =>
      have h3 := ih (by omega)
      have h4 := (hi (i + 1 + (d + 1)) h2).2.2 (by omega)
      exact bless_trans h3 h4
theorem leafT_good {ps : List Pr} (h : PrsOk ps) (h4 : ps.length ≤ 4) : (leafT ps).good = true := by
  unfold Tr.good Tr.shape leafT
  simp only [Bool.and_eq_true, decide_eq_true_eq, List.length_nil, Bool.not_eq_true', Bool.and_eq_false_imp, beq_eq_false_iff_ne]
  refine ⟨⟨h4, by omega, ⟨fun _ => by simp, by omega⟩⟩, ?_, by simp⟩
  rw [List.all_eq_true]
  intro i hi
  rw [List.mem_range] at hi
  have ei := h.each _ (List.getElem_mem hi)
  unfold prOk
  rw [prAt_get' hi]
  simp only [Bool.and_eq_true, decide_eq_true_eq, Bool.or_eq_true, beq_iff_eq]
  refine ⟨ei.1, ei.2, ?_⟩
  by_cases hi0 : i = 0
  · exact .inl hi0
  · right
    rw [prAt_get' (show i - 1 < ps.length by omega)]
    exact List.pairwise_iff_getElem.1 h.rise (i - 1) i (by omega) hi (by omega)
theorem textB_16 {s : List UInt8} (h : s.length ≤ 16) : (textB s).length ≤ 17 := by
  unfold textB
  rw [List.length_append, uintB_lt (by omega)]
  simp only [List.length_singleton]
  omega
theorem flatMap_len {α : Type} (f : α → List UInt8) (m : Nat) : ∀ l : List α, (∀ x ∈ l, (f x).length ≤ m) → (l.flatMap f).length ≤ l.length * m
  | [], _ => Nat.zero_le _
  | a :: t, h => by
    have h1 := flatMap_len f m t fun x hx => h x (List.mem_cons_of_mem _ hx)
    have h2 := h a (List.mem_cons_self ..)
    rw [List.flatMap_cons, List.length_append, List.length_cons, Nat.succ_mul]
    omega
theorem leaf_bytes {ps : List Pr} (h : PrsOk ps) (h4 : ps.length ≤ 4) : (leafT ps).bytes.length ≤ 200 := by
  show ([1, UInt8.ofNat ps.length] ++ ps.flatMap prB).length ≤ 200
  rw [List.length_append]
  have := flatMap_len prB 34 ps (fun x hx => by
    obtain ⟨h1, h2⟩ := h.each x hx
    unfold prB blo
    rw [List.length_append]
    have := textB_16 (s := x.1.data.toList) (by rw [str_len]; exact h1)
    have := textB_16 (s := x.2.data.toList) (by rw [str_len]; exact h2)
    omega)
  simp only [List.length_cons, List.length_nil]
  have h5 : ps.length * 34 ≤ 4 * 34 := Nat.mul_le_mul_right _ h4
  omega
theorem up_bytes {k : UInt8} {row : List Kd} (h : RowOk k row) (h2 : 2 ≤ row.length) (h3 : row.length ≤ 3) : (upT row).bytes.length ≤ 200 := by
  have e : (upT row).bytes = [2, UInt8.ofNat row.length] ++ row.flatMap kdB := if_neg (by show ¬ row.length = 0; omega)
  rw [e, List.length_append]
  have := flatMap_len kdB 50 row (fun x hx => by
    obtain ⟨h1, h2, _⟩ := h.each x hx
    unfold kdB blo
    rw [List.length_append]
    have := textB_16 (s := x.1.data.toList) (by rw [str_len]; exact h1)
    have := idText_len h2
    omega)
  simp only [List.length_cons, List.length_nil]
  have h5 : row.length * 50 ≤ 3 * 50 := Nat.mul_le_mul_right _ h3
  omega
theorem headK_mem : ∀ {row : List Kd}, row.length ≠ 0 → ∃ x ∈ row, headK row = x.1
  | [], h => absurd rfl h
  | x :: t, _ => ⟨x, List.mem_cons_self .., rfl⟩
theorem headP_mem : ∀ {ps : List Pr}, ps.length ≠ 0 → ∃ x ∈ ps, headP ps = x.1
  | [], h => absurd rfl h
  | x :: t, _ => ⟨x, List.mem_cons_self .., rfl⟩
theorem upRow_mem (k : UInt8) : ∀ (n : Nat) (row : List Kd), row.length ≤ n → ∀ y ∈ (upRow k row).2, ∃ x ∈ row, y.1 = x.1
  | 0, row, h, y, hy => by
    have : row = [] := List.eq_nil_of_length_eq_zero (by omega)
    subst this
    rw [upRow_nil] at hy
    cases hy
  | n + 1, row, h, y, hy => by
    by_cases h0 : row.length = 0
    · have : row = [] := List.eq_nil_of_length_eq_zero h0
      subst this
      rw [upRow_nil] at hy
      cases hy
    · rw [upRow_step k h0] at hy
      have hg := grp_pos (n := row.length) (by omega)
      rcases List.mem_cons.1 hy with rfl | hy
      · exact headK_mem h0
      · obtain ⟨x, hx, e⟩ := upRow_mem k n (row.drop (grp row.length)) (by rw [List.length_drop]; omega) y hy
        exact ⟨x, List.mem_of_mem_drop hx, e⟩
theorem upRow_ok (k : UInt8) (hk : 0 < idN k) : ∀ (n : Nat) (row : List Kd), row.length ≤ n → RowOk k row → RowOk k (upRow k row).2
  | 0, row, h, _ => by
    have : row = [] := List.eq_nil_of_length_eq_zero (by omega)
    subst this
    rw [upRow_nil]
    exact ⟨fun x hx => (by cases hx), List.Pairwise.nil⟩
  | n + 1, row, h, hr => by
    by_cases h0 : row.length = 0
    · have : row = [] := List.eq_nil_of_length_eq_zero h0
      subst this
      rw [upRow_nil]
      exact ⟨fun x hx => (by cases hx), List.Pairwise.nil⟩
    · rw [upRow_step k h0]
      have hg := grp_pos (n := row.length) (by omega)
      have ih := upRow_ok k hk n (row.drop (grp row.length)) (by rw [List.length_drop]; omega) (hr.drop _)
      obtain ⟨x0, hx0, e0⟩ := headK_mem h0
      refine ⟨fun y hy => ?_, ?_⟩
      · rcases List.mem_cons.1 hy with rfl | hy
        · obtain ⟨h1, h2, h3⟩ := obj_id k hk (upT (row.take (grp row.length)))
          exact ⟨by show (headK row).size ≤ 16; rw [e0]; exact (hr.each x0 hx0).1, h1, h2, h3⟩
        · exact ih.each y hy
      · refine List.pairwise_cons.2 ⟨fun y hy => ?_, ih.rise⟩
        obtain ⟨x, hx, e⟩ := upRow_mem k _ (row.drop (grp row.length)) (Nat.le_refl _) y hy
        show bslt (headK row) y.1 = true
        rw [e]
        match row, h0, hr, hx, hg with
        | a :: t, _, hr, hx, hg =>
          have hsub : x ∈ t := by
            obtain ⟨g, hge⟩ : ∃ g, grp (a :: t).length = g + 1 := ⟨grp (a :: t).length - 1, by omega⟩
            rw [hge, List.drop_succ_cons] at hx
            exact List.mem_of_mem_drop hx
          exact (List.pairwise_cons.1 hr.rise).1 x hsub
theorem chunks_ok : ∀ (n : Nat) (ps : List Pr), ps.length ≤ n → PrsOk ps → ∀ c ∈ chunks ps, PrsOk c ∧ c.length ≤ 4
  | 0, ps, h, hp, c, hc => by
    rw [chunks_le (by omega), List.mem_singleton] at hc
    subst hc
    exact ⟨hp, by omega⟩
  | n + 1, ps, h, hp, c, hc => by
    by_cases h4 : ps.length ≤ 4
    · rw [chunks_le h4, List.mem_singleton] at hc
      subst hc
      exact ⟨hp, h4⟩
    · rw [chunks_gt h4] at hc
      rcases List.mem_cons.1 hc with rfl | hc
      · exact ⟨hp.take _, by rw [List.length_take]; omega⟩
      · exact chunks_ok n (ps.drop 4) (by rw [List.length_drop]; omega) (hp.drop _) c hc
theorem chunks_len : ∀ (n : Nat) (ps : List Pr), ps.length ≤ n → (chunks ps).length = max ((ps.length + 3) / 4) 1
  | 0, ps, h => by rw [chunks_le (by omega)]; simp only [List.length_singleton]; omega
  | n + 1, ps, h => by
    by_cases h4 : ps.length ≤ 4
    · rw [chunks_le h4]
      simp only [List.length_singleton]
      omega
    · rw [chunks_gt h4, List.length_cons, chunks_len n (ps.drop 4) (by rw [List.length_drop]; omega), List.length_drop]
      omega
theorem chunks_heads (hd : List Pr → ByteArray) : ∀ (n : Nat) (ps : List Pr), ps.length ≤ n → 0 < ps.length → ∀ c ∈ chunks ps, ∃ x ∈ ps, headP c = x.1
  | 0, ps, h, h0, c, hc => by omega
  | n + 1, ps, h, h0, c, hc => by
    by_cases h4 : ps.length ≤ 4
    · rw [chunks_le h4, List.mem_singleton] at hc
      subst hc
      exact headP_mem (by omega)
    · rw [chunks_gt h4] at hc
      rcases List.mem_cons.1 hc with rfl | hc
      · obtain ⟨x, hx, e⟩ := headP_mem (ps := ps.take 4) (by rw [List.length_take]; omega)
        exact ⟨x, List.mem_of_mem_take hx, e⟩
      · obtain ⟨x, hx, e⟩ := chunks_heads hd n (ps.drop 4) (by rw [List.length_drop]; omega) (by rw [List.length_drop]; omega) c hc
        exact ⟨x, List.mem_of_mem_drop hx, e⟩
theorem leafR_ok (k : UInt8) (hk : 0 < idN k) : ∀ (n : Nat) (ps : List Pr), ps.length ≤ n → PrsOk ps → RowOk k (leafR k ps)
  | n, ps, h, hp => by
    have one : ∀ c : List Pr, (headP c).size ≤ 16 → (fun x : Kd => x.1.size ≤ 16 ∧ x.2.length = 33 ∧ idGood x.2 = true ∧ idKind x.2 = k) (headP c, (objT k (leafT c)).1) := fun c hc => by
      obtain ⟨h1, h2, h3⟩ := obj_id k hk (leafT c)
      exact ⟨hc, h1, h2, h3⟩
    have hs : ∀ c : List Pr, PrsOk c → (headP c).size ≤ 16 := fun c hc => by
      by_cases h0 : c.length = 0
      · rw [List.eq_nil_of_length_eq_zero h0]
        exact Nat.zero_le _
      · obtain ⟨x, hx, e⟩ := headP_mem h0
        rw [e]
        exact (hc.each x hx).1
    by_cases h4 : ps.length ≤ 4
    · unfold leafR
      rw [chunks_le h4]
      exact ⟨fun x hx => by rw [List.map_singleton, List.mem_singleton] at hx; subst hx; exact one ps (hs ps hp), List.pairwise_singleton _ _⟩
    · match n, h with
      | 0, h => omega
      | n + 1, h =>
        have ih := leafR_ok k hk n (ps.drop 4) (by rw [List.length_drop]; omega) (hp.drop _)
        unfold leafR at ih ⊢
        rw [chunks_gt h4, List.map_cons]
        refine ⟨fun x hx => ?_, List.pairwise_cons.2 ⟨fun y hy => ?_, ih.rise⟩⟩
        · rcases List.mem_cons.1 hx with rfl | hx
          · exact one _ (hs _ (hp.take _))
          · exact ih.each x hx
        · obtain ⟨c, hc, rfl⟩ := List.mem_map.1 hy
          obtain ⟨x, hx, e⟩ := chunks_heads headP _ (ps.drop 4) (Nat.le_refl _) (by rw [List.length_drop]; omega) c hc
          show bslt (headP (ps.take 4)) (headP c) = true
          rw [e]
          match ps, h4, hp, hx with
          | a :: t, _, hp, hx =>
            rw [List.drop_succ_cons] at hx
            exact (List.pairwise_cons.1 hp.rise).1 x (List.mem_of_mem_drop hx)
def countUp : Nat → Nat → Nat
  | 0, _ => 0
  | f + 1, r => if 1 < r then (r + 2) / 3 + countUp f ((r + 2) / 3) else 0
theorem upAll_len (k : UInt8) : ∀ (f : Nat) (row : List Kd), row.length ≤ f → row.length ≠ 0 → (upAll k row).1.length = countUp f row.length
  | 0, row, h, h0 => by omega
  | f + 1, row, h, h0 => by
    by_cases h1 : 1 < row.length
    · have hl := upRow_len k row.length row (Nat.le_refl _) (by omega)
      have hls := upRow_less k h1
      rw [upAll_more k h1, countUp, if_pos h1, List.length_append, hl.2, upAll_len k f (upRow k row).2 (by omega) (by rw [hl.1]; omega), hl.1]
    · rw [upAll_one k h1, countUp, if_neg h1]
      rfl
end Go.Proofs.YtcnhbodemabbdaaDoor
