/- The walks of leaf.Size and leaf.Encode. -/
import Derived.Test.YtmfmpbeempjeoaaLeafPut
namespace Go.Proofs.Ytmfmpbeempjeoaa
open Go.RowKit
set_option linter.unusedVariables false

theorem good_parts {n : Nd} (h : n.good = true) : n.shape = true ∧ n.keysOk = true ∧ n.valsOk = true ∧ n.kidsOk = true := by
  unfold Nd.good at h
  simpa [Bool.and_eq_true] using h
theorem good_leaf {n : Nd} {K V : Nat} (h : n.good = true) (hk : n.keys.length = K) (hv : n.vals.length = V) : n.leaf = true → V = K := by
  intro hl
  have hs := (good_parts h).1
  unfold Nd.shape at hs
  rw [hl, hk, hv] at hs
  simp at hs
  exact hs.1
theorem good_kids {n : Nd} (h : n.good = true) : ∀ p ∈ n.kids, 0 ≤ p := by
  intro p hp
  have hs := (good_parts h).2.2.2
  unfold Nd.kidsOk at hs
  rw [List.all_eq_true] at hs
  have := hs p hp
  unfold kidOk at this
  simp at this
  omega

def Nd.size (n : Nd) : Int := if n.good then (n.bytes.length : Int) else -1

theorem size_calls' (n : Nd) (l : Bool) (ka va da : Option Addr) (K V D kc vc dc : Nat) (w : World) (h : NdAt w n ka va da K V D kc vc dc) (hl : n.leaf = l) (hB : n.bytes.length ≤ 1048576) :
    Calls Try.prog 13 #[nda l ka K kc va V vc da D dc] w fun e w' => e = .returned (.int .i64 n.size) ∧ Ext w w' := by
  subst hl
  have Hh := Lib.hid h
  have HB := Lib.hid hB
  clear h hB
  go_enter Try.func13, Try.ntmps13
  have hbox : Blk (w.alloc (.cells #[.bool n.leaf, .slice ka K kc, .slice va V vc, .slice da D dc] 25)) w.heap.size 25 #[.bool n.leaf, .slice ka K kc, .slice va V vc, .slice da D dc] := Blk.new w _ _
  have hx0 : Ext w (w.alloc (.cells #[.bool n.leaf, .slice ka K kc, .slice va V vc, .slice da D dc] 25)) := (Ext.refl _).alloc _
  have Hbox := Lib.hid hbox
  clear hbox
  cases hg : n.good with
  | false =>
    go_wp2_with (go_at_call 12; ((with_reducible refine (good_calls n ka va da K V D kc vc dc _ (Hh.out.ext hx0)).mono ?_); rintro e w1 ⟨rfl, hx1⟩; rw [hg]))
    go_ret
    exact ⟨by rw [Nd.size, hg]; rfl, hx0.trans hx1⟩
  | true =>
    go_wp2_with (first
      | (go_at_call 12; ((with_reducible refine (good_calls n ka va da K V D kc vc dc _ (Hh.out.ext hx0)).mono ?_); rintro e w1 ⟨rfl, hx1⟩; rw [hg]; have hx01 := hx0.trans hx1; have hb := Hbox.out.ext hx1; have c0 : w1.cell? ⟨w.heap.size, 0, none⟩ = some (.bool n.leaf) := hb.cell 0; have c1 : w1.cell? ⟨w.heap.size, 1, none⟩ = some (.slice ka K kc) := hb.cell 1; have c2 : w1.cell? ⟨w.heap.size, 2, none⟩ = some (.slice va V vc) := hb.cell 2; have c3 : w1.cell? ⟨w.heap.size, 3, none⟩ = some (.slice da D dc) := hb.cell 3; clear hb))
      | (go_at_call 18; ((with_reducible refine (put_calls n ka va da K V D kc vc dc _ (Hh.out.ext hx01) (good_leaf hg Hh.out.hk Hh.out.hv) HB.out (good_kids hg)).mono ?_); rintro e w2 ⟨v, rfl, own, hx2⟩; obtain ⟨A5, c5, hv5, hl5, hm5, hc5⟩ := Own.form_at own rfl; subst hv5)))
    go_ret
    exact ⟨by rw [Nd.size, hg]; rfl, hx01.trans hx2⟩

/-- Encode's answers. -/
theorem encode_bad (n : Nd) (l : Bool) (ka va da : Option Addr) (K V D kc vc dc : Nat) (w : World) (h : NdAt w n ka va da K V D kc vc dc) (hl : n.leaf = l) (hg : n.good = false) :
    Calls Try.prog 10 #[nda l ka K kc va V vc da D dc] w fun e w' => e = .returned (.tuple #[.slice none 0 0, .int .i64 1]) ∧ Ext w w' := by
  subst hl
  go_enter Try.func10, Try.ntmps10
  have hx0 : Ext w (w.alloc (.cells #[.bool n.leaf, .slice ka K kc, .slice va V vc, .slice da D dc] 25)) := (Ext.refl _).alloc _
  go_wp2_with (go_at_call 12; ((with_reducible refine (good_calls n ka va da K V D kc vc dc _ (h.ext hx0)).mono ?_); rintro e w1 ⟨rfl, hx1⟩; rw [hg]))
  go_ret2
  exact ⟨rfl, hx0.trans hx1⟩
theorem encode_long (n : Nd) (l : Bool) (ka va da : Option Addr) (K V D kc vc dc : Nat) (w : World) (h : NdAt w n ka va da K V D kc vc dc) (hl : n.leaf = l) (hg : n.good = true) (hB : n.bytes.length ≤ 1048576) (hbig : 512 < n.bytes.length) :
    Calls Try.prog 10 #[nda l ka K kc va V vc da D dc] w fun e w' => e = .returned (.tuple #[.slice none 0 0, .int .i64 3]) ∧ Ext w w' := by
  subst hl
  have Hh := Lib.hid h
  have HB := Lib.hid hB
  clear h hB
  obtain ⟨L, hL⟩ : ∃ L, n.bytes.length = L := ⟨_, rfl⟩
  rw [hL] at hbig
  have HL := Lib.hid hL
  clear hL
  go_enter Try.func10, Try.ntmps10
  have hbox : Blk (w.alloc (.cells #[.bool n.leaf, .slice ka K kc, .slice va V vc, .slice da D dc] 25)) w.heap.size 25 #[.bool n.leaf, .slice ka K kc, .slice va V vc, .slice da D dc] := Blk.new w _ _
  have hx0 : Ext w (w.alloc (.cells #[.bool n.leaf, .slice ka K kc, .slice va V vc, .slice da D dc] 25)) := (Ext.refl _).alloc _
  have Hbox := Lib.hid hbox
  clear hbox
  have hbig' : (512 : Int) < (L : Int) := by omega
  go_wp2_with (first
      | (go_at_call 12; ((with_reducible refine (good_calls n ka va da K V D kc vc dc _ (Hh.out.ext hx0)).mono ?_); rintro e w1 ⟨rfl, hx1⟩; rw [hg]; have hx01 := hx0.trans hx1; have hb := Hbox.out.ext hx1; have c0 : w1.cell? ⟨w.heap.size, 0, none⟩ = some (.bool n.leaf) := hb.cell 0; have c1 : w1.cell? ⟨w.heap.size, 1, none⟩ = some (.slice ka K kc) := hb.cell 1; have c2 : w1.cell? ⟨w.heap.size, 2, none⟩ = some (.slice va V vc) := hb.cell 2; have c3 : w1.cell? ⟨w.heap.size, 3, none⟩ = some (.slice da D dc) := hb.cell 3; clear hb))
      | (go_at_call 18; ((with_reducible refine (put_calls n ka va da K V D kc vc dc _ (Hh.out.ext hx01) (good_leaf hg Hh.out.hk Hh.out.hv) HB.out (good_kids hg)).mono ?_); rintro e w2 ⟨v, rfl, own, hx2⟩; obtain ⟨A5, c5, hv5, hl5, hm5, hc5⟩ := Own.form_at own HL.out; subst hv5)))
  go_ret2
  exact ⟨rfl, hx01.trans hx2⟩
theorem encode_ok (n : Nd) (l : Bool) (ka va da : Option Addr) (K V D kc vc dc : Nat) (w : World) (h : NdAt w n ka va da K V D kc vc dc) (hl : n.leaf = l) (hg : n.good = true) (hB : n.bytes.length ≤ 1048576) (hbig : ¬ 512 < n.bytes.length) :
    Calls Try.prog 10 #[nda l ka K kc va V vc da D dc] w fun e w' => (∃ v, e = .returned (.tuple #[v, .int .i64 0]) ∧ Own w.heap.size w' v n.bytes) ∧ Ext w w' := by
  subst hl
  have Hh := Lib.hid h
  have HB := Lib.hid hB
  clear h hB
  obtain ⟨L, hL⟩ : ∃ L, n.bytes.length = L := ⟨_, rfl⟩
  rw [hL] at hbig
  have HL := Lib.hid hL
  clear hL
  go_enter Try.func10, Try.ntmps10
  have hbox : Blk (w.alloc (.cells #[.bool n.leaf, .slice ka K kc, .slice va V vc, .slice da D dc] 25)) w.heap.size 25 #[.bool n.leaf, .slice ka K kc, .slice va V vc, .slice da D dc] := Blk.new w _ _
  have hx0 : Ext w (w.alloc (.cells #[.bool n.leaf, .slice ka K kc, .slice va V vc, .slice da D dc] 25)) := (Ext.refl _).alloc _
  have Hbox := Lib.hid hbox
  clear hbox
  have hbig' : ¬ (512 : Int) < (L : Int) := by omega
  go_wp2_with (first
      | (go_at_call 12; ((with_reducible refine (good_calls n ka va da K V D kc vc dc _ (Hh.out.ext hx0)).mono ?_); rintro e w1 ⟨rfl, hx1⟩; rw [hg]; have hx01 := hx0.trans hx1; have hb := Hbox.out.ext hx1; have c0 : w1.cell? ⟨w.heap.size, 0, none⟩ = some (.bool n.leaf) := hb.cell 0; have c1 : w1.cell? ⟨w.heap.size, 1, none⟩ = some (.slice ka K kc) := hb.cell 1; have c2 : w1.cell? ⟨w.heap.size, 2, none⟩ = some (.slice va V vc) := hb.cell 2; have c3 : w1.cell? ⟨w.heap.size, 3, none⟩ = some (.slice da D dc) := hb.cell 3; clear hb))
      | (go_at_call 18; ((with_reducible refine (put_calls n ka va da K V D kc vc dc _ (Hh.out.ext hx01) (good_leaf hg Hh.out.hk Hh.out.hv) HB.out (good_kids hg)).mono ?_); rintro e w2 ⟨v, rfl, own, hx2⟩; obtain ⟨A5, c5, hv5, hl5, hm5, hc5⟩ := Own.form_at own HL.out; subst hv5)))
  go_ret2
  exact ⟨⟨_, rfl, own.lower hx01.size⟩, hx01.trans hx2⟩
end Go.Proofs.Ytmfmpbeempjeoaa
