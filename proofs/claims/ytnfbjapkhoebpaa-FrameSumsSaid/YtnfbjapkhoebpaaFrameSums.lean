/- FrameSums: Sum and Put answer what the document says: the walk of the law. -/
import Derived.Test.YtnfbjapkhoebpaaFrameLaw
namespace Go.Proofs.Ytnfbjapkhoebpaa
open Go.RowKit
set_option linter.unusedVariables false

set_option maxRecDepth 50000 in
set_option maxHeartbeats 4000000 in
theorem frameSums_calls (A : Option Addr) (n c : Nat) (bs : List UInt8) (s : ByteArray) (w : World) (hb : Cells w A (bv bs)) (hn : bs.length = n) (hc : n ≤ c) (hl : n ≤ 140737488351232) (hs : s.size ≤ 140737488351232) :
    Calls Try.prog 3 #[.slice A n c, .string s] w fun e w' => e = .returned (.bool true) ∧ Ext w w' := by
  by_cases h1 : 4096 < n
  · go_enter Try.func3, Try.ntmps3
    go_wp2_with (go_at_call 8; refine (frame_alive _).mono ?_; rintro e w1 ⟨rfl, hx1⟩)
    go_ret
    exact ⟨rfl, hx1⟩
  by_cases h2 : 4096 < s.size
  · go_enter Try.func3, Try.ntmps3
    go_wp2_with (go_at_call 8; refine (frame_alive _).mono ?_; rintro e w1 ⟨rfl, hx1⟩)
    go_ret
    exact ⟨rfl, hx1⟩
  obtain ⟨t, ht⟩ : ∃ t, t = s.data.toList := ⟨_, rfl⟩
  have hts : s = bstr t := by rw [ht, bstr_of]
  have htl : t.length = s.size := by rw [ht, str_len]
  have hfl : (fr t).length ≤ t.length + 14 := by
    rw [fr_len, textB_len]; have := sizeN_64 (n := t.length) (by omega); omega
  subst hts
  rw [bstr_size] at hs h2 htl
  obtain ⟨S, hS⟩ : ∃ S, S = crc bs := ⟨_, rfl⟩
  have hsum := fun w' h => fsum_calls A n c bs w' h hn hl
  have hrsum := fun w' => frsum_calls bs w' (by omega)
  rw [← hS] at hsum hrsum
  have hself : (((S.toNat : Int) == (S.toNat : Int)) : Bool) = true := by simp
  obtain ⟨f, hf⟩ : ∃ f, f = fr t := ⟨_, rfl⟩
  have hput := fun w' h => fput_calls A n c bs (bstr t) w' h hn hc (by rw [bstr_size]; omega)
  have hfrm := fun w' => frframe_calls t w' (by omega)
  rw [bstr_data] at hput
  rw [← hf] at hput hfrm
  have hz1 : (bstr bs).size ≤ 4096 := by rw [bstr_size]; omega
  have hz2 : (bstr f).size ≤ 5000 := by rw [bstr_size, hf]; omega
  have happ := bstr_append bs f
  have htz := bstr_size t
  obtain ⟨L, hL⟩ : ∃ L, (bs ++ f).length = L := ⟨_, rfl⟩
  have hcb : ∀ w', Ext w w' → (convert 22 9 (.slice A n c)).run Try.prog w' = .ok (.string (bstr bs)) w' := fun w' k => conv_str Try.underlying22 Try.underlying5 Try.underlying9 hn (hb.ext k)
  clear hS hf ht htl
  go_enter Try.func3, Try.ntmps3
  go_wp2_with (go_at_call 8; refine (frame_alive _).mono ?_; rintro e w1 ⟨rfl, hx1⟩)
  have hx1d : Ext w w1.drew := hx1.drew
  have hcb1 := hcb w1.drew hx1d
  go_region_with (first
    | (go_at_call 9; refine (hsum _ (hb.ext hx1d)).mono ?_; rintro e w' ⟨rfl, rfl⟩)
    | (go_at_call 10; refine (hrsum _).mono ?_; rintro e w' ⟨rfl, rfl⟩)
    | (go_at_call 11; (first
        | (refine (hput _ (hb.ext (hx1d.trans hx5))).mono ?_; rintro e w4 ⟨v4, rfl, hown4, hx4⟩; have hx45 := (hx1d.trans hx5).trans hx4)
        | (refine (hput _ (hb.ext hx1d)).mono ?_; rintro e w4 ⟨v4, rfl, hown4, hx4⟩; have hx45 := hx1d.trans hx4)); obtain ⟨A4, c4, rfl, hc4, hm4, hb4⟩ := hown4.form_at hL; have hcb4 := hcb _ hx45; have hcx4 := conv_str (P := Try.prog) Try.underlying22 Try.underlying5 Try.underlying9 (c := c4) hL hb4)
    | (go_at_call 12; refine (hfrm _).mono ?_; rintro e w5 ⟨rfl, hx5⟩; (first
        | (have hx45 := hx45.trans hx5; have hcx5 := conv_str (P := Try.prog) Try.underlying22 Try.underlying5 Try.underlying9 (c := c4) hL (hb4.ext hx5))
        | (have hx45 := hx1d.trans hx5)); have hcb5 := hcb _ hx45))
  all_goals (first
    | (go_wp2; go_ret; exact ⟨rfl, hx45⟩)
    | (go_ret; exact ⟨rfl, hx45⟩)
    | (trace_state; sorry))
end Go.Proofs.Ytnfbjapkhoebpaa
