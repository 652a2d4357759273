/- ImageBoth holds: whatever two boots, whichever byte of the first eight and whatever it is spoiled by, the law returns true and leaves its input as it was; no condition. -/
import Derived.Test.YtfodboooopkheaaLift
namespace Go.Proofs.Ytfodboooopkheaa
open Go.ChangeShapes Go.WideShapes Go.ChangeAt Go.RowKit

set_option maxRecDepth 100000 in
theorem both_lifted (os : Os) (started : os.Started) (H : Type) (enc : TypeId × Value → H) :
    ReturnsInHanded {} Try.checked os 4 .any (Rows.imageBothSpec.pre6 enc Try.prog Try.f4 Rows.imageBothRow.domain false) (Rows.imageBothSpec.post enc Try.prog Try.f4 false true false false) := by
  refine returnsInHanded_of_change (C := Try.checked) Try.own started (by kernel_rfl) Try.func4
    (ChangeSpec.witness6 (enc := enc) (C := Try.checked) false ⟨#[], #[.agg BT.zero.cells, .agg BT.zero.cells, .int .u8 0, .int .u8 0], []⟩ 8 (by kernel_rfl) (by kernel_rfl) (by kernel_rfl) (by kernel_rfl)) ?_
  intro W base args ds gs before hval0 hW hcnd _
  have hval : ∀ (j : Nat) t v, Try.f4.params[j]? = some t → args[j]? = some v → Value.okWide Try.prog W .any base t v := hval0
  have hW' := hW
  obtain ⟨p, q, hA0, hV, rfl, hfz, hnd⟩ := hW
  have hA : DataW.TrodAll enc Try.prog W 0 (fun _ => true) true Try.f4.params.toList args.toList ds p := hA0
  rw [Try.params4] at hA hval
  obtain ⟨v0, v1, v2, v3, d0, d1, d2, d3, p0, p1, p2, p3, rfl, rfl, rfl, h0, h1, h2, h3⟩ := trodAll_four hA
  obtain ⟨rfl, rfl⟩ := trodVars_none hV
  obtain ⟨a, rfl, wa⟩ := open_boot (hval 0 31 v0 rfl rfl) h0
  obtain ⟨b, rfl, wb⟩ := open_boot (hval 1 31 v1 rfl rfl) h1
  obtain ⟨m, rfl, rfl, rfl, wm⟩ := open_int Try.underlying5 (hval 2 5 v2 rfl rfl) h2
  obtain ⟨y, rfl, rfl, rfl, wy⟩ := open_int Try.underlying5 (hval 3 5 v3 rfl rfl) h3
  have hm : IntKind.u8.min = 0 := rfl
  have hM : IntKind.u8.max = 255 := rfl
  simp [Lit.wf, hm, hM] at wm wy
  obtain ⟨k, rfl⟩ := Int.eq_ofNat_of_zero_le wm.1
  refine (both_any a b k y W wa wb (by omega) wy.1 wy.2).mono fun e W' ⟨he, hw⟩ => ?_
  subst he
  exact ⟨_, rfl, law_post rfl rfl (by kernel_rfl) hW' hw rfl rfl rfl⟩
theorem both_holds : Rows.ImageBothSaid :=
  OpenClaim.holds_of_wide 4 Try.f4 rfl rfl rfl rfl rfl rfl rfl ⟨rfl, rfl, rfl, rfl, rfl⟩ rfl rfl rfl rfl rfl (by kernel_rfl) Try.func4 (by kernel_rfl)
    (of_decide_eq_true (by kernel_rfl)) (by unfold Func.isWrapper; first | (rw [if_pos (by decide +kernel)]; kernel_rfl) | (rw [if_neg (by decide +kernel)]; exact ⟨rfl, rfl⟩))
    (fun os started H enc _ => both_lifted os started H enc)
end Go.Proofs.Ytfodboooopkheaa
