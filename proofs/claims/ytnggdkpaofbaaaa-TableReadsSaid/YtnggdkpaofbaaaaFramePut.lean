/- The walks of frame.Put and of the reference's Frame. -/
import Derived.Test.YtnggdkpaofbaaaaFrameSum
import Derived.Test.YtnggdkpaofbaaaaCode
import Derived.Test.YtnggdkpaofbaaaaRef01b
namespace Go.Proofs.Ytnggdkpaofbaaaa
open Go.RowKit
set_option linter.unusedVariables false

theorem le4_bv (x : W) : bv (le4 x) = [.int .u8 ((x.toNat : Int) % 256), .int .u8 ((x.toNat : Int) / 256 % 256), .int .u8 ((x.toNat : Int) / 65536 % 256), .int .u8 ((x.toNat : Int) / 16777216)] := by
  have h4 : ((x.toNat / 16777216 : Nat) : Int) % 256 = (x.toNat : Int) / 16777216 := by have := x.isLt; omega
  have h : ∀ n : Nat, ((UInt8.ofNat n).toNat : Int) = (n : Int) % 256 := fun n => by rw [UInt8.toNat_ofNat']; omega
  simp only [le4, bv, List.map_cons, List.map_nil, h, h4]
  rfl

set_option maxRecDepth 50000 in
set_option maxHeartbeats 1000000 in
theorem fput_calls (A : Option Addr) (n c : Nat) (bs : List UInt8) (s : ByteArray) (w : World) (hb : Cells w A (bv bs)) (hn : bs.length = n) (hc : n ≤ c) (hl : n + s.size ≤ 140737488350000) :
    Calls Try.prog 34 #[.slice A n c, .string s] w fun e w' => ∃ v, e = .returned v ∧ Own w.heap.size w' v (bs ++ fr s.data.toList) ∧ Ext w w' := by
  have hlen : (textB s.data.toList).length ≤ s.size + 10 := by
    rw [textB_len, str_len, Nat.add_comm]; exact Nat.add_le_add_left (sizeN_64 (by omega)) _
  obtain ⟨t, ht⟩ : ∃ t, t = textB s.data.toList := ⟨_, rfl⟩
  have htext := fun w' => text_calls none 0 0 [] s w' (Cells.nil _ _) rfl (Nat.le_refl _) (by omega)
  simp only [List.nil_append] at htext
  rw [fr, ← ht]
  rw [← ht] at hlen
  simp only [← ht] at htext
  have hle := le4_bv (crc t)
  have hl4 : (le4 (crc t)).length = 4 := rfl
  have HT := Lib.hid ht
  clear ht
  obtain ⟨k, hk⟩ : ∃ k, t.length = k := ⟨_, rfl⟩
  have HN := Lib.hid hn
  have hk4 : (t ++ le4 (crc t)).length = k + 4 := by rw [List.length_append, hk, hl4]
  go_enter Try.func34, Try.ntmps34
  go_wp2_with (first
    | (go_at_call 33; refine (htext _).mono ?_; rintro e w1 ⟨v1, rfl, hown, hx⟩; obtain ⟨A1, c1, rfl, hc1, hm1, hb1⟩ := hown.form_at hk)
    | (go_at_call 72; refine (fsum_calls A1 k c1 t _ hb1 hk ?_).mono ?_; (case _ => omega); rintro e w2 ⟨rfl, rfl⟩)
    | (at_builtin; refine wpList_append_u8 _ rfl (.tmp 11) (.tmp 23) rfl w.heap.size _ t rfl (hown.ext ((Ext.refl _).alloc _)) (some ⟨w1.heap.size, 0, none⟩) 4 4 (le4 (crc t)) rfl hl4 (by rw [hle]; exact Cells.lit rfl _ _ _) (by omega) (hx.alloc _).size ?_; intro v2 w2 hown2 hg2 _; have hx2 : Ext w w2 := hown.ext ((Ext.refl _).alloc _) |>.grows (hx.alloc _) hg2; obtain ⟨A2, c2, rfl, hc2, hm2, hb2⟩ := hown2.form_at hk4)
    | (at_builtin; refine wpList_append_tail _ rfl (.tmp 30) (.tmp 31) rfl w.heap.size _ bs rfl (Tail.clip HN.out (hb.ext hx2)) A2 (k + 4) c2 (t ++ le4 (crc t)) rfl hk4 (by omega) hb2 (by rw [HN.out]; omega) hx2.size ?_; intro v3 w3 hown3 hab3))
  have hx3 : Ext w w3 := hab3.ext hx2
  go_ret
  exact ⟨v3, rfl, hown3, hx3⟩

set_option maxRecDepth 50000 in
set_option maxHeartbeats 1000000 in
theorem frframe_calls (bs : List UInt8) (w : World) (hl : bs.length ≤ 140737488350000) :
    Calls Try.prog 51 #[.string (bstr bs)] w fun e w' => e = .returned (.string (bstr (fr bs))) ∧ Ext w w' := by
  have hlen : (textB bs).length ≤ bs.length + 10 := by
    rw [textB_len, Nat.add_comm]; exact Nat.add_le_add_left (sizeN_64 (by omega)) _
  obtain ⟨t, ht⟩ : ∃ t, t = textB bs := ⟨_, rfl⟩
  have htext := fun w' => refText_calls (bstr bs) w' (by rw [bstr_size]; omega)
  simp only [bstr_data] at htext
  rw [fr, ← ht]
  rw [← ht] at hlen
  simp only [← ht] at htext
  have hle := le4_bv (crc t)
  clear ht
  have hcv := fun (w : World) => conv_str (P := Try.prog) (w := w.alloc (.cells #[.int .u8 (((crc t).toNat : Int) % 256), .int .u8 (((crc t).toNat : Int) / 256 % 256), .int .u8 (((crc t).toNat : Int) / 65536 % 256), .int .u8 (((crc t).toNat : Int) / 16777216)] 5)) Try.underlying31 Try.underlying5 Try.underlying9 (a := some ⟨w.heap.size, 0, none⟩) (c := 4) (bs := le4 (crc t)) (n := 4) rfl (by rw [hle]; exact Cells.lit rfl _ _ _)
  have hz1 : (bstr t).size ≤ 140737488351000 := by rw [bstr_size]; omega
  have hz2 : (bstr (le4 (crc t))).size ≤ 10 := by rw [bstr_size]; simp [le4]
  clear hle
  go_enter Try.func51, Try.ntmps51
  go_wp2_with (first
    | (go_at_call 47; refine (htext _).mono ?_; rintro e w1 ⟨rfl, hx⟩)
    | (go_at_call 79; refine (frsum_calls t _ ?_).mono ?_; (case _ => omega); rintro e w2 ⟨rfl, rfl⟩))
  go_ret
  rw [bstr_append]
  exact ⟨rfl, hx.alloc _⟩
end Go.Proofs.Ytnggdkpaofbaaaa
