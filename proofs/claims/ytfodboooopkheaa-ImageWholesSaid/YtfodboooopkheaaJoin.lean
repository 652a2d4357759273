/- bytes.Join of one part. -/
import Derived.Test.YtfodboooopkheaaGet
namespace Go.Proofs.Ytfodboooopkheaa
open Go.RowKit

set_option maxRecDepth 100000 in
set_option maxHeartbeats 400000 in
theorem join_one (gp cap : Nat) (t : TypeId) (cs : Array Value) (ad : Addr) (c : Nat) (l : List Int) (w : World) (hp : Blk w gp t cs) (hc : cs[0]? = some (.slice (some ad) l.length c)) (hn : l.length ≤ 1000000)
    (hsrc : ∀ j u, (l.map (Value.int .u8))[j]? = some u → w.cell? (ad.add j) = some u) :
    Calls Try.prog 44 #[.slice (some ⟨gp, 0, none⟩) 1 cap, .slice none 0 0] w fun e w' => ∃ v, e = .returned v ∧ w'.ownsRow w.heap.size 5 1 v l.length (l.map (Value.int .u8)) ∧ Below w.heap.size w w' := by
  have c0 : w.cell? ⟨gp, 0, none⟩ = some (.slice (some ad) l.length c) := by rw [hp.cell, hc]
  have SRC := Lib.hid hsrc
  obtain ⟨i0, hi, hz0, hz1, hz2⟩ := info_parts info5
  clear hp hc hsrc
  go_enter Try.func44, Try.ntmps44
  go_wp2_with (at_builtin; refine wpList_append_own_at _ rfl _ _ 22 rfl w.heap.size 5 i0 (.int .u8 0) 1 1 Try.underlying22 hi hz0 hz1 hz2 rfl (by decide) (.slice none 0 0) 0 [] rfl (World.ownsRow_nil _ _ _ _) ad l.length c (l.map (Value.int .u8)) rfl (by rw [List.length_map]; omega) SRC.out (one_map l) (by unfold maxLen; omega) (by omega) (Nat.le_refl _) ?_; intro v' w6 own6 grow6 _ at6; have O6 := Lib.hid own6; have R6 := Lib.hid grow6; clear own6 grow6 at6)
  go_ret
  refine ⟨v', rfl, ?_, ?_⟩
  · simpa using O6.out
  · exact (Kept.grown (F := fun _ => False) (Kept.refl _ _) R6.out (fun j hj => by cases hj)).toBelow
end Go.Proofs.Ytfodboooopkheaa
