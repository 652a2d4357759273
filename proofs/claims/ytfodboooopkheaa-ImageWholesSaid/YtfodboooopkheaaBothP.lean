/- plain laws behind ImageBoth: two boots that were told, one behind the other, and the newer one's block spoiled. -/
import Derived.Test.YtfodboooopkheaaAwake2
namespace Go.Proofs.Ytfodboooopkheaa
open Go.RowKit

theorem u8_xor_nat (a b : Nat) (ha : a < 256) (hb : b < 256) : bits .xor .u8 (a : Int) (b : Int) = ((a ^^^ b : Nat) : Int) := by
  have e : bits .xor .u8 (a : Int) (b : Int) = IntKind.u8.wrap ((BitVec.ofInt 8 (a : Int) ^^^ BitVec.ofInt 8 (b : Int)).toNat : Int) := rfl
  have e1 : ∀ n : Nat, n < 256 → (BitVec.ofInt 8 (n : Int)).toNat = n := fun n hn => by
    rw [BitVec.toNat_ofInt]; omega
  have hx : a ^^^ b < 2 ^ 8 := Nat.xor_lt_two_pow ha hb
  rw [e, BitVec.toNat_xor, e1 a ha, e1 b hb]
  generalize a ^^^ b = c at hx
  show ((c : Int)) % 256 = c
  omega
theorem xor_self_iff (a b : Nat) (h : a ^^^ b = a) : b = 0 := by
  have : a ^^^ (a ^^^ b) = a ^^^ a := by rw [h]
  rw [← Nat.xor_assoc, Nat.xor_self, Nat.zero_xor] at this
  exact this
theorem xor_some (L : List Int) (k : Nat) (hk : k < L.length) (hL : Byt L) (by_ : Int) (h0 : 0 ≤ by_) (h1 : by_ ≤ 255) : 0 ≤ bits .xor .u8 L[k] by_ ∧ bits .xor .u8 L[k] by_ ≤ 255 ∧ (by_ ≠ 0 → bits .xor .u8 L[k] by_ ≠ L[k]) ∧ (by_ = 0 → bits .xor .u8 L[k] by_ = L[k]) := by
  have hx := hL.get hk
  generalize L[k] = x at *
  obtain ⟨A, rfl⟩ := Int.eq_ofNat_of_zero_le hx.1
  obtain ⟨B, rfl⟩ := Int.eq_ofNat_of_zero_le h0
  rw [u8_xor_nat A B (by omega) (by omega)]
  have hb : A ^^^ B < 2 ^ 8 := Nat.xor_lt_two_pow (by omega) (by omega)
  refine ⟨by omega, by omega, fun hne h => ?_, fun h => ?_⟩
  · exact hne (by have := xor_self_iff A B (by omega); omega)
  · have : B = 0 := by omega
    subst this
    rw [Nat.xor_zero]
theorem byt_set {L : List Int} (h : Byt L) (k : Nat) (y : Int) (hy : 0 ≤ y ∧ y ≤ 255) : Byt (L.set k y) := by
  intro x hx
  rcases List.mem_or_eq_of_mem_set hx with hx | rfl
  · exact h x hx
  · exact hy
def F1 (a : BT) : DS := ((newS 2).put 0 (encB a 1)).flushed
def F2 (a b : BT) : DS := ((F1 a).put 1 (encB b 2)).flushed
section
variable {a b : BT}
theorem F1_dur (_ha : a.whole.length = 32) : (F1 a).dur.length = 64 * (F1 a).n := by
  unfold F1
  rw [flushed_put _ _ _ rfl]
  show (over (List.replicate (64 * 2) (0 : Int)) (64 * 0) ((encB a 1).take 64)).length = 64 * 2
  rw [length_over _ _ _ (by rw [List.length_take, List.length_replicate]; omega), List.length_replicate]
theorem best_F1 (hw : a.wf) (hm : a.may) : bestN (F1 a) 0 2 = (a, 1) := by
  have hl := hw.2.2.2.2.2.2.1
  have h0 := best_new 2 0 (by omega) (by omega)
  have := best_put (newS 2) 0 0 (encB a 1) a rfl (len_encB _ _ hl) List.length_replicate (by omega) (by show (0 : Int) + 2 ≤ 2; omega) (.inl rfl) (by rw [h0]; exact Int.le_refl _)
    (by rw [h0]; exact readB_encB a 1 hw hm (by omega) (by omega))
  rw [h0] at this
  exact this
theorem best_F2 (hw : a.wf) (hm : a.may) (hw' : b.wf) (hm' : b.may) : bestN (F2 a b) 0 2 = (b, 2) := by
  have hl := hw'.2.2.2.2.2.2.1
  have h0 := best_F1 hw hm
  have := best_put (F1 a) 0 1 (encB b 2) b rfl (len_encB _ _ hl) (F1_dur hw.2.2.2.2.2.2.1) (by omega) (by show (0 : Int) + 2 ≤ 2; omega) (.inr rfl) (by rw [h0]; show (0 : Int) ≤ 1; omega)
    (by rw [h0]; exact readB_encB b 2 hw' hm' (by omega) (by omega))
  rw [h0] at this
  exact this
theorem blk_F2_1 (hw : a.wf) (hw' : b.wf) : (F2 a b).blk 1 = encB b 2 := by
  have := blk_over (F1 a) 1 1 (encB b 2) rfl (len_encB _ _ hw'.2.2.2.2.2.2.1) (F1_dur hw.2.2.2.2.2.2.1) (by omega) (by show (1 : Int) < 2; omega) (by omega) (by show (1 : Int) < 2; omega)
  rw [if_pos rfl] at this
  exact this
theorem blk_F2_0 (hw : a.wf) (hw' : b.wf) : (F2 a b).blk 0 = encB a 1 := by
  have := blk_over (F1 a) 1 0 (encB b 2) rfl (len_encB _ _ hw'.2.2.2.2.2.2.1) (F1_dur hw.2.2.2.2.2.2.1) (by omega) (by show (1 : Int) < 2; omega) (by omega) (by show (0 : Int) < 2; omega)
  rw [if_neg (by omega)] at this
  have h2 := blk_over (newS 2) 0 0 (encB a 1) rfl (len_encB _ _ hw.2.2.2.2.2.2.1) List.length_replicate (by omega) (by show (0 : Int) < 2; omega) (by omega) (by show (0 : Int) < 2; omega)
  rw [if_pos rfl] at h2
  exact this.trans h2
theorem best_same (hw : a.wf) (hm : a.may) (hw' : b.wf) (hm' : b.may) : bestN ((F2 a b).put 1 (encB b 2)) 0 2 = (b, 2) := by
  have e0 : ((F2 a b).put 1 (encB b 2)).blk 0 = encB a 1 := by rw [blk_put, if_neg (by omega), blk_F2_0 hw hw']
  have e1 : ((F2 a b).put 1 (encB b 2)).blk (0 + 1) = encB b 2 := by rw [blk_put]; exact if_pos rfl
  rw [bestN_two, e0, e1, readB_encB a 1 hw hm (by omega) (by omega), readB_encB b 2 hw' hm' (by omega) (by omega)]
  rfl
/-- a boot block of which one of the first eight bytes is another is no boot block -/
theorem readB_spoiled (hw' : b.wf) (k : Nat) (y : Int) (hk : k < 8) (hy : 0 ≤ y ∧ y ≤ 255) (hne : (encB b 2)[k]? ≠ some y) : readB ((encB b 2).set k y) = (BT.zero, 0) := by
  have hl := hw'.2.2.2.2.2.2.1
  refine readB_no _ fun h => hne ?_
  have t : (((encB b 2).set k y).drop 56).take 8 = layL 2 8 := by rw [List.drop_set_of_lt (by omega), tail_encB b 2 hl]
  have e : ((encB b 2).set k y).take 8 = (layL 2 8).set k y := by rw [List.take_set, head_encB b 2 hl]
  rw [t, e] at h
  have := numL_inj 8 _ _ (by rw [List.length_set]; exact len_layL _ _) (len_layL _ _) (by
    intro x hx
    rcases List.mem_or_eq_of_mem_set hx with hx | rfl
    · exact byt_layL _ _ x hx
    · exact hy) (byt_layL _ _) h
  have h8 : (layL 2 8)[k]? = some y := by
    rw [← this, List.getElem?_set]
    simp [len_layL, hk]
  rw [← head_encB b 2 hl, List.getElem?_take, if_pos hk] at h8
  exact h8
theorem best_spoiled (hw : a.wf) (hm : a.may) (hw' : b.wf) (k : Nat) (y : Int) (hk : k < 8) (hy : 0 ≤ y ∧ y ≤ 255) (hne : (encB b 2)[k]? ≠ some y) : bestN ((F2 a b).put 1 ((encB b 2).set k y)) 0 2 = (a, 1) := by
  have e0 : ((F2 a b).put 1 ((encB b 2).set k y)).blk 0 = encB a 1 := by rw [blk_put, if_neg (by omega), blk_F2_0 hw hw']
  have e1 : ((F2 a b).put 1 ((encB b 2).set k y)).blk (0 + 1) = (encB b 2).set k y := by rw [blk_put]; exact if_pos rfl
  rw [bestN_two, e0, e1, readB_encB a 1 hw hm (by omega) (by omega), readB_spoiled hw' k y hk hy hne]
  rfl
end
end Go.Proofs.Ytfodboooopkheaa
