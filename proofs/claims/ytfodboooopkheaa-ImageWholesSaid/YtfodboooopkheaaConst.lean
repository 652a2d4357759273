/- sha.Sum: what it begins with. -/
import Derived.Test.YtfodboooopkheaaBlk
import Derived.Test.YtfodboooopkheaaJoin
namespace Go.Proofs.Ytfodboooopkheaa
open Go.RowKit
/-- the first bits of roots -/
def KC : List Int := [1116352408, 1899447441, 3049323471, 3921009573, 961987163, 1508970993, 2453635748, 2870763221, 3624381080, 310598401, 607225278, 1426881987, 1925078388, 2162078206, 2614888103, 3248222580, 3835390401, 4022224774, 264347078, 604807628, 770255983, 1249150122, 1555081692, 1996064986, 2554220882, 2821834349, 2952996808, 3210313671, 3336571891, 3584528711, 113926993, 338241895, 666307205, 773529912, 1294757372, 1396182291, 1695183700, 1986661051, 2177026350, 2456956037, 2730485921, 2820302411, 3259730800, 3345764771, 3516065817, 3600352804, 4094571909, 275423344, 430227734, 506948616, 659060556, 883997877, 958139571, 1322822218, 1537002063, 1747873779, 1955562222, 2024104815, 2227730452, 2361852424, 2428436474, 2756734187, 3204031479, 3329325298]
def S0 : List Int := [1779033703, 3144134277, 1013904242, 2773480762, 1359893119, 2600822924, 528734635, 1541459225]
theorem len_KC : KC.length = 64 := rfl
set_option maxRecDepth 100000 in
theorem w32_KC : ∀ x ∈ KC, W32 x := by unfold KC W32; decide +kernel
theorem w32_S0 : ∀ x ∈ S0, W32 x := by unfold S0 W32; decide +kernel
set_option maxRecDepth 100000 in
set_option maxHeartbeats 1000000 in
theorem begun_any (w : World) : Calls Try.prog 46 #[] w fun e w' => e = .returned (.agg (U32 S0)) ∧ Below w.heap.size w w' := by
  go_enter Try.func46, Try.ntmps46
  go_wp2_with (first
    | (refine wpList_new rfl 86 rfl _ run_zero86 w.heap.size rfl ?_; intro w1 g0 hs1 hb1; have G1 := Lib.hid (show Blk w1 w.heap.size 86 (U32 Z8w) from g0); have B1 := Lib.hid hb1; clear g0 hb1)
    | (refine wpList_store_blk rfl 86 _ _ rfl w.heap.size 86 (U32 Z8w) (U32 S0) rfl rfl G1.out rfl size86 (one_U32 _) ?_; intro w9 g9 ho9; have G9 := Lib.hid g9; have O9 := Lib.hid ho9; clear g9 ho9))
  refine bodyPost_ret (results_cell1 rfl _ _ w.heap.size 86 (U32 S0) _ rfl G9.out Try.underlying86 rfl size86) rfl ⟨rfl, ?_⟩
  exact (Only.kept (F := fun _ => False) (Kept.below B1.out) O9.out (.inr (Nat.le_refl _))).toBelow
set_option maxRecDepth 100000 in
set_option maxHeartbeats 1000000 in
theorem constants_any (w : World) : Calls Try.prog 45 #[] w fun e w' => e = .returned (.agg (U32 KC)) ∧ Below w.heap.size w w' := by
  go_enter Try.func45, Try.ntmps45
  go_wp2_with (first
    | (refine wpList_new rfl 83 rfl _ run_zero83 w.heap.size rfl ?_; intro w1 g0 hs1 hb1; have G1 := Lib.hid (show Blk w1 w.heap.size 83 (U32 Z64w) from g0); have B1 := Lib.hid hb1; clear g0 hb1)
    | (refine wpList_store_blk rfl 83 _ _ rfl w.heap.size 83 (U32 Z64w) (U32 KC) rfl rfl G1.out rfl size83 (one_U32 _) ?_; intro w9 g9 ho9; have G9 := Lib.hid g9; have O9 := Lib.hid ho9; clear g9 ho9))
  refine bodyPost_ret (results_cell1 rfl _ _ w.heap.size 83 (U32 KC) _ rfl G9.out Try.underlying83 rfl size83) rfl ⟨rfl, ?_⟩
  exact (Only.kept (F := fun _ => False) (Kept.below B1.out) O9.out (.inr (Nat.le_refl _))).toBelow
end Go.Proofs.Ytfodboooopkheaa
