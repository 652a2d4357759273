/- what a boot block that was written says when it is read. -/
import Derived.Test.YtfodboooopkheaaWhole
namespace Go.Proofs.Ytfodboooopkheaa
open Go.RowKit
theorem encB_eq (b : BT) (n : Int) (h : b.whole.length = 32) : encB b n = layL n 8 ++ (b.area :: (layL b.epoch 8 ++ (layL b.size 4 ++ (b.whole ++ ([0, 0, 0] ++ layL n 8))))) := by
  obtain ⟨a, e, s, wh⟩ := b
  unfold encB over
  dsimp only at h ⊢
  rw [h]
  rfl
theorem foldl_layL (n : Int) : ∀ (k : Nat) (a : Int), (layL n k).foldl (fun a x => a * 256 + x) a = a * 256 ^ k + n % 256 ^ k
  | 0, a => by simp [layL, Int.emod_one]
  | k + 1, a => by
    have h2 : (2 : Int) ^ (8 * k) = 256 ^ k := by rw [Int.pow_mul]; rfl
    simp only [layL, List.foldl_cons]
    rw [foldl_layL n k]
    unfold byteAt
    rw [h2, Int.pow_succ]
    generalize hc : (256 : Int) ^ k = c
    have hc0 : 0 < c := by rw [← hc]; exact Int.pow_pos (by decide)
    have e1 : n / (c * 256) = n / c / 256 := (Int.ediv_ediv_of_nonneg (Int.le_of_lt hc0)).symm
    have e2 := Int.mul_ediv_add_emod n c
    have e3 := Int.mul_ediv_add_emod (n / c) 256
    have e4 := Int.mul_ediv_add_emod n (c * 256)
    rw [e1] at e4
    have e5 : c * (n / c) = c * 256 * (n / c / 256) + c * (n / c % 256) := by
      rw [Int.mul_assoc, ← Int.mul_add, e3]
    have e6 : (a * 256 + n / c % 256) * c = a * (c * 256) + c * (n / c % 256) := by
      rw [Int.add_mul, Int.mul_comm (n / c % 256) c, Int.mul_assoc, Int.mul_comm 256 c]
    rw [e6]
    omega
theorem numL_layL (n : Int) (k : Nat) (h0 : 0 ≤ n) (h : n < 256 ^ k) : numL (layL n k) = n := by
  show (layL n k).foldl _ 0 = n
  rw [foldl_layL, Int.emod_eq_of_lt h0 h]
  omega
theorem readB_encB (b : BT) (n : Int) (hw : b.wf) (hm : b.may) (h0 : 0 ≤ n) (h1 : n ≤ 1099511627776) : readB (encB b n) = (b, n) := by
  have hl := hw.2.2.2.2.2.2.1
  obtain ⟨m1, m2, m3, m4, m5⟩ := hm
  have t1 : (encB b n).take 8 = layL n 8 := by rw [encB_eq b n hl]; rfl
  have t2 : (encB b n).getD 8 0 = b.area := by rw [encB_eq b n hl]; rfl
  have t3 : ((encB b n).drop 9).take 8 = layL b.epoch 8 := by rw [encB_eq b n hl]; rfl
  have t4 : ((encB b n).drop 17).take 4 = layL b.size 4 := by rw [encB_eq b n hl]; rfl
  have t5 : ((encB b n).drop 21).take 32 = b.whole := by rw [encB_eq b n hl]; exact List.take_left' hl
  have d53 : (encB b n).drop 53 = [0, 0, 0] ++ layL n 8 := by
    rw [encB_eq b n hl, show (53 : Nat) = 21 + 32 from rfl, ← List.drop_drop]; exact List.drop_left' hl
  have t6 : ((encB b n).drop 53).take 3 = [0, 0, 0] := by rw [d53]; rfl
  have t7 : ((encB b n).drop 56).take 8 = layL n 8 := by
    rw [show (56 : Nat) = 53 + 3 from rfl, ← List.drop_drop, d53]; rfl
  have hn : numL (layL n 8) = n := numL_layL n 8 h0 (by show n < 18446744073709551616; omega)
  have he : numL (layL b.epoch 8) = b.epoch := numL_layL _ 8 m2 (by show _ < (18446744073709551616 : Int); omega)
  have hs : numL (layL b.size 4) = b.size := numL_layL _ 4 (by omega) (by show _ < (4294967296 : Int); omega)
  have hr : rawB (encB b n) = b := by
    unfold rawB
    rw [t2, t3, t4, t5, he, hs, Int.min_eq_left (by omega)]
  unfold readB
  rw [t1, t7, t6, hn, hr]
  exact if_pos ⟨h1, rfl, rfl, m1, m2, m3, m4, m5⟩
/-- a disk with nothing fresh on it, behind one block that was written and flushed -/
theorem flushed_put (s : DS) (k : Int) (l : List Int) (hf : s.fresh = []) : (s.put k l).flushed = { s with dur := over s.dur (64 * k.toNat) (l.take 64), fresh := [] } := by
  unfold DS.flushed DS.put
  simp only [hf, putI]
  rfl
theorem blk_over (s : DS) (k m : Int) (l : List Int) (hf : s.fresh = []) (hl : l.length = 64) (hs : s.dur.length = 64 * s.n) (h0 : 0 ≤ k) (h1 : k < (s.n : Int)) (m0 : 0 ≤ m) (m1 : m < (s.n : Int)) :
    ((s.put k l).flushed).blk m = if m = k then l else s.blk m := by
  rw [flushed_put s k l hf]
  unfold DS.blk
  simp only [hf, getI, Option.getD_none]
  rw [List.take_of_length_le (show l.length ≤ 64 by omega)]
  apply List.ext_getElem?
  intro i
  by_cases hm : m = k
  · subst hm
    rw [if_pos rfl]
    unfold over
    rw [List.drop_append_of_le_length (by simp; omega), List.drop_of_length_le (by simp; omega), List.nil_append, List.take_append_of_le_length (by omega), List.take_of_length_le (by omega)]
  · rw [if_neg hm]
    simp only [List.getElem?_take, List.getElem?_drop]
    by_cases hi : i < 64
    · rw [if_pos hi, if_pos hi]
      unfold over
      simp only [List.getElem?_append, List.length_take, List.getElem?_take, List.getElem?_drop]
      by_cases hmk : m < k
      · rw [if_pos (by omega), if_pos (by omega)]
      · rw [if_neg (by omega), if_neg (by omega)]
        congr 1; omega
    · rw [if_neg hi, if_neg hi]
theorem bestN_two (s : DS) (at_ : Int) : bestN s at_ 2 =
    if (if 0 < (readB (s.blk at_)).2 then readB (s.blk at_) else (BT.zero, 0)).2 < (readB (s.blk (at_ + 1))).2 then readB (s.blk (at_ + 1)) else (if 0 < (readB (s.blk at_)).2 then readB (s.blk at_) else (BT.zero, 0)) := by
  have e0 : bestN s at_ 1 = if 0 < (readB (s.blk at_)).2 then readB (s.blk at_) else (BT.zero, 0) := by
    show (if (0 : Int) < (readB (s.blk (at_ + ((0 : Nat) : Int)))).2 then _ else _) = _
    rw [show at_ + ((0 : Nat) : Int) = at_ by omega]
    rfl
  rw [bestN_succ s at_ 1, e0]
  rfl
/-- a boot block that is newer than all is the best -/
theorem best_put (s : DS) (at_ k : Int) (l : List Int) (b : BT) (hf : s.fresh = []) (hl : l.length = 64) (hs : s.dur.length = 64 * s.n) (h0 : 0 ≤ at_) (h1 : at_ + 2 ≤ (s.n : Int)) (hk : k = at_ ∨ k = at_ + 1)
    (hn : 0 ≤ (bestN s at_ 2).2) (hr : readB l = (b, (bestN s at_ 2).2 + 1)) : bestN ((s.put k l).flushed) at_ 2 = (b, (bestN s at_ 2).2 + 1) := by
  have b0 := blk_over s k at_ l hf hl hs (by omega) (by omega) h0 (by omega)
  have b1 := blk_over s k (at_ + 1) l hf hl hs (by omega) (by omega) (by omega) (by omega)
  rw [bestN_two, b0, b1]
  have hold := bestN_two s at_
  generalize bestN s at_ 2 = old at *
  rcases hk with hk | hk
  · rw [hk, if_pos rfl, if_neg (show ¬ at_ + 1 = at_ by omega), hr]
    generalize readB (s.blk at_) = r0 at *
    generalize readB (s.blk (at_ + 1)) = r1 at *
    have h9 : r1.2 ≤ old.2 := by
      rw [hold]
      by_cases h : (if 0 < r0.2 then r0 else (BT.zero, 0)).2 < r1.2
      · rw [if_pos h]; exact Int.le_refl _
      · rw [if_neg h]; exact Int.not_lt.1 h
    rw [if_pos (show (0 : Int) < (b, old.2 + 1).2 by show 0 < old.2 + 1; omega), if_neg (show ¬ (b, old.2 + 1).2 < r1.2 by show ¬ old.2 + 1 < r1.2; omega)]
  · rw [hk, if_neg (show ¬ at_ = at_ + 1 by omega), if_pos rfl, hr]
    generalize readB (s.blk at_) = r0 at *
    generalize readB (s.blk (at_ + 1)) = r1 at *
    have h9 : (if 0 < r0.2 then r0 else (BT.zero, 0)).2 ≤ old.2 := by
      rw [hold]
      by_cases h : (if 0 < r0.2 then r0 else (BT.zero, 0)).2 < r1.2
      · rw [if_pos h]; exact Int.le_of_lt h
      · rw [if_neg h]; exact Int.le_refl _
    rw [if_pos (show (if 0 < r0.2 then r0 else (BT.zero, 0)).2 < (b, old.2 + 1).2 by show _ < old.2 + 1; omega)]
end Go.Proofs.Ytfodboooopkheaa
