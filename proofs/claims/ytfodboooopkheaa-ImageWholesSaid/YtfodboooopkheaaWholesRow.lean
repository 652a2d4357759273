/- ImageWholes holds: whatever bytes, wherever they are cut, whichever area and whichever byte is turned, the law returns true and leaves its input as it was; no condition. -/
import Derived.Test.YtfodboooopkheaaWholesB
import Derived.Test.YtfodboooopkheaaWholesC
import Derived.Test.YtfodboooopkheaaWholesD
import Derived.Test.YtfodboooopkheaaLift
namespace Go.Proofs.Ytfodboooopkheaa
open Go.ChangeShapes Go.WideShapes Go.ChangeAt Go.RowKit

set_option maxRecDepth 100000 in
set_option maxHeartbeats 1000000 in
theorem wholes_none (pa : Option Addr) (cap : Nat) (cut m at_ : Int) (w : World) : Calls Try.prog 3 #[.slice pa 0 cap, .int .i64 cut, .int .u8 m, .int .i64 at_] w fun e w' => e = .returned (.bool true) ∧ Below w.heap.size w w' := by
  go_enter Try.func3, Try.ntmps3
  go_wp2_with (go_at_call 8; refine (awake_any w).mono ?_; rintro e w1 ⟨rfl, b1⟩; have C1 := Lib.hid b1; clear b1)
  go_ret
  exact ⟨rfl, C1.out⟩
set_option maxRecDepth 100000 in
set_option maxHeartbeats 1000000 in
theorem wholes_many (pa : Option Addr) (n cap : Nat) (cut m at_ : Int) (w : World) (hn : 600 < n) : Calls Try.prog 3 #[.slice pa n cap, .int .i64 cut, .int .u8 m, .int .i64 at_] w fun e w' => e = .returned (.bool true) ∧ Below w.heap.size w w' := by
  have B0 : ((n : Int) == 0) = false := by simp; omega
  have B6 : decide ((600 : Int) < (n : Int)) = true := by simp; omega
  have B7 : (600 : Int) < (n : Int) := by omega
  go_enter Try.func3, Try.ntmps3
  go_wp2_with (go_at_call 8; refine (awake_any w).mono ?_; rintro e w1 ⟨rfl, b1⟩; have C1 := Lib.hid b1; clear b1)
  go_ret
  exact ⟨rfl, C1.out⟩
theorem wholes_any (ad : Addr) (l : List Int) (cap m : Nat) (cut at_ : Int) (w : World) (h0 : 0 < l.length) (h6 : l.length ≤ 600) (hcap : l.length ≤ cap) (had : ad.block < w.heap.size) (hl : Byt l) (hsrc : ∀ j, (hj : j < l.length) → w.cell? (ad.add j) = some (.int .u8 l[j]))
    (hc0 : -9223372036854775808 ≤ cut) (hc1 : cut ≤ 9223372036854775807) (ht0 : -9223372036854775808 ≤ at_) (ht1 : at_ ≤ 9223372036854775807) (hm : m ≤ 255) :
    Calls Try.prog 3 #[.slice (some ad) l.length cap, .int .i64 cut, .int .u8 (m : Int), .int .i64 at_] w fun e w' => e = .returned (.bool true) ∧ Below w.heap.size w w' := by
  obtain ⟨c, hc⟩ : ∃ c : Nat, cut = (c : Int) ∨ cut = -((c : Int) + 1) := by
    by_cases h : 0 ≤ cut
    · exact ⟨cut.toNat, .inl (by omega)⟩
    · exact ⟨(-(cut + 1)).toNat, .inr (by omega)⟩
  obtain ⟨t, ht⟩ : ∃ t : Nat, at_ = (t : Int) ∨ at_ = -((t : Int) + 1) := by
    by_cases h : 0 ≤ at_
    · exact ⟨at_.toNat, .inl (by omega)⟩
    · exact ⟨(-(at_ + 1)).toNat, .inr (by omega)⟩
  have k1 : c % (l.length + 1) ≤ l.length := by have := Nat.mod_lt c (show 0 < l.length + 1 by omega); omega
  have q1 : t % l.length < l.length := Nat.mod_lt _ h0
  have r1 : (c : Int) % ((l.length : Int) + 1) = ((c % (l.length + 1) : Nat) : Int) := by rw [Int.natCast_emod, Int.natCast_add]; rfl
  have r2 : (m : Int) % 2 = ((m % 2 : Nat) : Int) := by omega
  have r3 : 2 + 10 * ((m % 2 : Nat) : Int) = ((2 + 10 * (m % 2) : Nat) : Int) := by omega
  have r4 : (t : Int) % (l.length : Int) = ((t % l.length : Nat) : Int) := by rw [Int.natCast_emod]
  have hf : 2 + 10 * (m % 2) = 2 ∨ 2 + 10 * (m % 2) = 12 := by omega
  rcases hc with rfl | rfl <;> rcases ht with rfl | rfl
  · exact wholes_pp ad l _ cap c m t _ _ _ _ w rfl h0 h6 hcap had hl hsrc (by omega) (by omega) hm r1 r2 r3 r4 k1 q1 (by omega) hf
  · exact wholes_pn ad l _ cap c m t _ _ _ _ w rfl h0 h6 hcap had hl hsrc (by omega) (by omega) hm r1 r2 r3 r4 k1 q1 (by omega) hf
  · exact wholes_np ad l _ cap c m t _ _ _ _ w rfl h0 h6 hcap had hl hsrc (by omega) (by omega) hm r1 r2 r3 r4 k1 q1 (by omega) hf
  · exact wholes_nn ad l _ cap c m t _ _ _ _ w rfl h0 h6 hcap had hl hsrc (by omega) (by omega) hm r1 r2 r3 r4 k1 q1 (by omega) hf
theorem lt_of_cell {w : World} {a : Addr} {v : Value} (h : w.cell? a = some v) : a.block < w.heap.size := by
  rcases Nat.lt_or_ge a.block w.heap.size with hlt | hge
  · exact hlt
  · unfold World.cell? at h
    simp [Array.getElem?_eq_none hge] at h
set_option maxRecDepth 100000 in
theorem wholes_lifted (os : Os) (started : os.Started) (H : Type) (enc : TypeId × Value → H) :
    ReturnsInHanded {} Try.checked os 3 .any (Rows.imageWholesSpec.pre6 enc Try.prog Try.f3 Rows.imageWholesRow.domain false) (Rows.imageWholesSpec.post enc Try.prog Try.f3 false true false false) := by
  refine returnsInHanded_of_change (C := Try.checked) Try.own started (by kernel_rfl) Try.func3
    (ChangeSpec.witness6 (enc := enc) (C := Try.checked) false ⟨#[], #[.slice none 0 0, .int .i64 0, .int .u8 0, .int .i64 0], []⟩ 8 (by kernel_rfl) (by kernel_rfl) (by kernel_rfl) (by kernel_rfl)) ?_
  intro W base args ds gs before hval0 hW hcnd _
  have hval : ∀ (j : Nat) t v, Try.f3.params[j]? = some t → args[j]? = some v → Value.okWide Try.prog W .any base t v := hval0
  have hW' := hW
  obtain ⟨p, q, hA0, hV, rfl, hfz, hnd⟩ := hW
  have hA : DataW.TrodAll enc Try.prog W 0 (fun _ => true) true Try.f3.params.toList args.toList ds p := hA0
  rw [Try.params3] at hA hval
  obtain ⟨v0, v1, v2, v3, d0, d1, d2, d3, p0, p1, p2, p3, rfl, rfl, rfl, h0, h1, h2, h3⟩ := trodAll_four hA
  obtain ⟨rfl, rfl⟩ := trodVars_none hV
  obtain ⟨c, rfl, rfl, rfl, wc⟩ := open_int Try.underlying3 (hval 1 3 v1 rfl rfl) h1
  obtain ⟨m, rfl, rfl, rfl, wm⟩ := open_int Try.underlying5 (hval 2 5 v2 rfl rfl) h2
  obtain ⟨t, rfl, rfl, rfl, wt⟩ := open_int Try.underlying3 (hval 3 3 v3 rfl rfl) h3
  have hm : IntKind.u8.min = 0 := rfl
  have hM : IntKind.u8.max = 255 := rfl
  have hm6 : IntKind.i64.min = -9223372036854775808 := rfl
  have hM6 : IntKind.i64.max = 9223372036854775807 := rfl
  simp [Lit.wf, hm, hM, hm6, hM6] at wm wc wt
  obtain ⟨k, rfl⟩ := Int.eq_ofNat_of_zero_le wm.1
  have key : Calls Try.prog 3 #[v0, .int .i64 c, .int .u8 (k : Int), .int .i64 t] W fun e w' => e = .returned (.bool true) ∧ Below W.heap.size W w' := by
    obtain ⟨a0, n0, cap0, rfl⟩ := okWide_slice Try.underlying22 (hval 0 22 v0 rfl rfl)
    obtain ⟨fuel, hf⟩ := h0
    rcases open_ints Try.underlying22 Try.underlying5 (by kernel_rfl) hf with ⟨hcs, hx⟩ | ⟨a, len, cap, zs, hcs, _, hl, hmx, hz, hx, hcell, hwz⟩
    · simp only [Value.cells, List.cons.injEq, Value.slice.injEq, and_true] at hcs
      obtain ⟨rfl, rfl, rfl⟩ := hcs
      exact wholes_none none 0 c k t W
    · simp only [Value.cells, List.cons.injEq, Value.slice.injEq, and_true] at hcs
      obtain ⟨rfl, rfl, rfl⟩ := hcs
      simp only [if_true] at hz
      by_cases hn0 : n0 = 0
      · subst hn0
        exact wholes_none _ _ c k t W
      · by_cases hn6 : n0 ≤ 600
        · have hlen : (zs.take n0).length = n0 := by rw [List.length_take, hz]; omega
          have hsrc : ∀ j, (hj : j < (zs.take n0).length) → W.cell? (a.add j) = some (.int .u8 (zs.take n0)[j]) := fun j hj => by
            have hjz : j < zs.length := by rw [hz]; omega
            rw [hcell j hjz, List.getElem_take, List.getD_eq_getElem?_getD, List.getElem?_eq_getElem hjz]
            rfl
          have had : a.block < W.heap.size := by
            have := lt_of_cell (hsrc 0 (by omega))
            rwa [add_block] at this
          have := wholes_any a (zs.take n0) cap0 k c t W (by omega) (by omega) (by omega) had (fun x hx => by
            have := hwz x (List.mem_of_mem_take hx)
            simpa [Lit.wf, hm, hM] using this) hsrc wc.1 wc.2 wt.1 wt.2 (by omega)
          rwa [hlen] at this
        · exact wholes_many _ n0 _ c k t W (by omega)
  refine key.mono fun e W' ⟨he, hw⟩ => ?_
  subst he
  exact ⟨_, rfl, law_post rfl rfl (by kernel_rfl) hW' hw rfl rfl rfl⟩
theorem wholes_holds : Rows.ImageWholesSaid :=
  OpenClaim.holds_of_wide 3 Try.f3 rfl rfl rfl rfl rfl rfl rfl ⟨rfl, rfl, rfl, rfl, rfl⟩ rfl rfl rfl rfl rfl (by kernel_rfl) Try.func3 (by kernel_rfl)
    (of_decide_eq_true (by kernel_rfl)) (by unfold Func.isWrapper; first | (rw [if_pos (by decide +kernel)]; kernel_rfl) | (rw [if_neg (by decide +kernel)]; exact ⟨rfl, rfl⟩))
    (fun os started H enc _ => wholes_lifted os started H enc)
end Go.Proofs.Ytfodboooopkheaa
