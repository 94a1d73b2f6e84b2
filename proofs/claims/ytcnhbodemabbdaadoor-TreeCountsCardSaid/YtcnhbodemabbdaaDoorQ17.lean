/- The walk of the reference's Numbers. -/
import Derived.Test.YtcnhbodemabbdaaDoorQ16
import Derived.Test.YtcnhbodemabbdaaDoorQ06
namespace Go.Proofs.YtcnhbodemabbdaaDoor
open Go.RowKit
set_option linter.unusedVariables false

theorem ktv_lit : ktv = #[.int .u32 1116352408, .int .u32 1899447441, .int .u32 3049323471, .int .u32 3921009573, .int .u32 961987163, .int .u32 1508970993, .int .u32 2453635748, .int .u32 2870763221, .int .u32 3624381080, .int .u32 310598401, .int .u32 607225278, .int .u32 1426881987, .int .u32 1925078388, .int .u32 2162078206, .int .u32 2614888103, .int .u32 3248222580, .int .u32 3835390401, .int .u32 4022224774, .int .u32 264347078, .int .u32 604807628, .int .u32 770255983, .int .u32 1249150122, .int .u32 1555081692, .int .u32 1996064986, .int .u32 2554220882, .int .u32 2821834349, .int .u32 2952996808, .int .u32 3210313671, .int .u32 3336571891, .int .u32 3584528711, .int .u32 113926993, .int .u32 338241895, .int .u32 666307205, .int .u32 773529912, .int .u32 1294757372, .int .u32 1396182291, .int .u32 1695183700, .int .u32 1986661051, .int .u32 2177026350, .int .u32 2456956037, .int .u32 2730485921, .int .u32 2820302411, .int .u32 3259730800, .int .u32 3345764771, .int .u32 3516065817, .int .u32 3600352804, .int .u32 4094571909, .int .u32 275423344, .int .u32 430227734, .int .u32 506948616, .int .u32 659060556, .int .u32 883997877, .int .u32 958139571, .int .u32 1322822218, .int .u32 1537002063, .int .u32 1747873779, .int .u32 1955562222, .int .u32 2024104815, .int .u32 2227730452, .int .u32 2361852424, .int .u32 2428436474, .int .u32 2756734187, .int .u32 3204031479, .int .u32 3329325298] := by kernel_rfl

set_option maxRecDepth 100000 in
set_option maxHeartbeats 4000000 in
theorem numbers_calls (w : World) : Calls Tryd.prog 117 #[] w fun e w' => e = .returned (.agg ktv) ∧ Ext w w' := by
  go_enter Tryd.func117, Tryd.ntmps117
  go_wp2_with (refine wpList_store_blk rfl 174 (.tmp 0) (.tmp 1) rfl rfl w.heap.size _ rfl rfl _ _ (Blk.new w _ _) rfl (by kernel_rfl) ?_ ?_; (rw [← ktv_lit, ktv, List.toList_toArray]; intro v hv; obtain ⟨i, _, rfl⟩ := List.mem_map.1 hv; rfl); intro w3 hb3 hg3; rw [← ktv_lit] at hb3)
  exact bodyPost_ret (results_cell_row (P := Tryd.prog) (fn := Tryd.f117) rfl _ _ _ _ ktv _ _ rfl hb3 Tryd.underlying174 rfl (by kernel_rfl)) rfl ⟨rfl, ((Ext.refl _).alloc _).grown_ hg3 (by simp)⟩

end Go.Proofs.YtcnhbodemabbdaaDoor
