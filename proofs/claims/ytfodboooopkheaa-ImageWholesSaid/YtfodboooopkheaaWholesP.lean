/- plain laws behind ImageWholes: an image put in two pieces, a boot told of it, and one byte of it turned. -/
import Derived.Test.YtfodboooopkheaaBothP
namespace Go.Proofs.Ytfodboooopkheaa
open Go.RowKit

/-- behind a block's write and a flush: that block is what was written, the others as they were -/
theorem At.put_flushed {w : World} {b B : Nat} {s : DS} (h : At w b B s) (k m : Int) (l : List Int) (hl : l.length = 64) (k0 : 0 ≤ k) (k1 : k < (s.n : Int)) (m0 : 0 ≤ m) (m1 : m < (s.n : Int)) : (s.put k l).flushed.blk m = if m = k then l else s.blk m := by
  obtain ⟨p, _, d, _⟩ := h
  have hks : ∀ q ∈ (s.put k l).fresh, 0 ≤ q.1 ∧ q.1 < ((s.put k l).n : Int) ∧ q.2.length = 64 := fun q hq => by
    rcases mem_putI hq with h | rfl
    · exact ⟨(d.keys q h).1, (d.keys q h).2.1, (d.keys q h).2.2.1⟩
    · exact ⟨k0, k1, hl⟩
  have hnd : ((s.put k l).fresh.map (·.1)).Nodup := by
    show ((putI s.fresh k l).map (·.1)).Nodup
    rw [keys_putI]
    cases hg : getI s.fresh k with
    | some x => simpa using d.nd
    | none =>
      simp only [Option.isSome_none, Bool.false_eq_true, if_false]
      refine List.nodup_append.2 ⟨d.nd, by simp, ?_⟩
      intro x hx y hy
      simp only [List.mem_singleton] at hy
      subst hy
      rintro rfl
      exact not_mem_of_getI hg hx
  rw [Ytfodboooopkheaa.flushed_blk (s.put k l) m d.len hks hnd m0 m1, blk_put]
theorem look_new (n x : Nat) (hx : x < 64 * n) : (newS n).look x = 0 := by
  unfold DS.look
  rw [blk_new n _ (by omega) (by omega)]
  unfold Z64
  rw [List.getD_eq_getElem?_getD, List.getElem?_replicate, if_pos (Nat.mod_lt _ (by omega))]
  rfl
theorem look_blk (s s' : DS) (x : Nat) (h : s'.blk ((x / 64 : Nat) : Int) = s.blk ((x / 64 : Nat) : Int)) : s'.look x = s.look x := by
  unfold DS.look
  rw [h]
theorem getD_drop (l : List Int) (k i : Nat) : (l.drop k).getD i 0 = l.getD (k + i) 0 := by
  rw [List.getD_eq_getElem?_getD, List.getD_eq_getElem?_getD, List.getElem?_drop]
theorem getD_take (l : List Int) (k i : Nat) (h : i < k) : (l.take k).getD i 0 = l.getD i 0 := by
  rw [List.getD_eq_getElem?_getD, List.getD_eq_getElem?_getD, List.getElem?_take, if_pos h]
section
variable {w : World} {b B fr k q : Nat} {s1 s2 s4 : DS} {l : List Int} {bt : BT} {y : Int}
/-- the image in two pieces -/
structure Image (s : DS) (fr : Nat) (l : List Int) : Prop where
  n : s.n = 22
  down : s.down = false
  low : ∀ x, 64 ≤ x → x < 128 → s.look x = 0
  img : ∀ x, 64 * fr ≤ x → x < 64 * fr + l.length → s.look x = l.getD (x - 64 * fr) 0
theorem image_s2 (hfr : fr = 2 ∨ fr = 12) (hn : l.length ≤ 600) (hk : k ≤ l.length) (h1 : Laid (newS 22) s1 (64 * fr + k) (l.drop k)) (h2 : Laid s1 s2 (64 * fr + 0) (l.take k)) : Image s2 fr l ∧ ∀ x, x < 64 → s2.look x = 0 := by
  have hn1 : s1.n = 22 := h1.n
  have hlow : ∀ x, x < 128 → s2.look x = 0 := fun x hx => by
    rw [h2.look x (by rw [hn1]; omega), if_neg (by omega), h1.look x (by show x < 64 * 22; omega), if_neg (by omega), look_new 22 x (by omega)]
  refine ⟨⟨h2.n.trans hn1, h2.down.trans h1.down, fun x _ hx => hlow x hx, fun x hx hx2 => ?_⟩, fun x hx => hlow x (by omega)⟩
  have hl1 : (l.take k).length = k := by rw [List.length_take]; omega
  have hl2 : (l.drop k).length = l.length - k := List.length_drop
  rw [h2.look x (by rw [hn1]; omega), hl1]
  by_cases hc : x < 64 * fr + k
  · rw [if_pos (by omega), getD_take _ _ _ (by omega)]
    congr 1
  · rw [if_neg (by omega), h1.look x (by show x < 64 * 22; omega), hl2, if_pos (by omega), getD_drop]
    congr 1
    omega
theorem blk_zero (h : ∀ x, 64 * k ≤ x → x < 64 * k + 64 → s1.look x = 0) (hl : (s1.blk (k : Int)).length = 64) (hk : k < 22) : s1.blk (k : Int) = Z64 := by
  have hz := blk_new 22 (k : Int) (by omega) (by omega)
  rw [← hz]
  refine blk_of_look (newS 22) s1 k (by rw [hz]; rfl) hl fun x h1 h2 => ?_
  rw [h x h1 h2, look_new 22 x (by omega)]
theorem best_s2 (h : At w b B s2) (hi : Image s2 fr l) (h0 : ∀ x, x < 64 → s2.look x = 0) : bestN s2 0 2 = (BT.zero, 0) := by
  have hn := hi.n
  have z0 : s2.blk 0 = Z64 := blk_zero (k := 0) (fun x _ hx => h0 x (by omega)) (h.blk_ok 0 (by omega) (by omega)).1 (by omega)
  have z1 : s2.blk (0 + 1) = Z64 := blk_zero (k := 1) (fun x hx hx2 => hi.low x (by omega) (by omega)) (h.blk_ok 1 (by omega) (by omega)).1 (by omega)
  rw [bestN_two, z0, z1, readB_zero]
  rfl
def F3 (s : DS) (bt : BT) : DS := (s.put 0 (encB bt 1)).flushed
theorem F3_image (h : At w b B s2) (hi : Image s2 fr l) (hfr : fr = 2 ∨ fr = 12) (hn : l.length ≤ 600) (hw : bt.wf) : Image (F3 s2 bt) fr l ∧ (F3 s2 bt).blk 0 = encB bt 1 := by
  have h22 := hi.n
  have hb : ∀ m : Nat, m < 22 → (F3 s2 bt).blk (m : Int) = if (m : Int) = 0 then encB bt 1 else s2.blk (m : Int) := fun m hm =>
    h.put_flushed 0 m _ (len_encB _ _ hw.2.2.2.2.2.2.1) (by omega) (by omega) (by omega) (by omega)
  have hlk : ∀ x, 64 ≤ x → x < 64 * 22 → (F3 s2 bt).look x = s2.look x := fun x h1 h2 => look_blk _ _ _ (by rw [hb _ (by omega), if_neg (by omega)])
  refine ⟨⟨hi.n, hi.down, fun x h1 h2 => by rw [hlk x h1 (by omega)]; exact hi.low x h1 h2, fun x h1 h2 => by rw [hlk x (by omega) (by omega)]; exact hi.img x h1 h2⟩, ?_⟩
  have := hb 0 (by omega)
  rw [if_pos (show ((0 : Nat) : Int) = 0 from rfl)] at this
  exact this
theorem best_of_image (h : At w b B s1) (hi : Image s1 fr l) (h0 : s1.blk 0 = encB bt 1) (hw : bt.wf) (hm : bt.may) : bestN s1 0 2 = (bt, 1) := by
  have hn := hi.n
  have z1 : s1.blk (0 + 1) = Z64 := blk_zero (k := 1) (fun x hx hx2 => hi.low x (by omega) (by omega)) (h.blk_ok 1 (by omega) (by omega)).1 (by omega)
  rw [bestN_two, h0, z1, readB_zero, readB_encB bt 1 hw hm (by omega) (by omega)]
  rfl
theorem from_image (hi : Image s1 fr l) : s1.from_ (64 * fr) l.length = l := by
  apply List.ext_getElem (len_from _ _ _)
  intro i h1 h2
  rw [get_from _ _ _ _ h2, hi.img _ (by omega) (by omega), Nat.add_sub_cancel_left, List.getD_eq_getElem?_getD, List.getElem?_eq_getElem h2]
  rfl
theorem whole_image (hi : Image s1 fr l) : wholeE s1 fr bt l.length = if shaF l = bt.whole then 0 else 80 := by
  unfold wholeE
  rw [from_image hi]
/-- one byte of the image is turned -/
theorem image_s4 (hi : Image s1 fr l) (h0 : s1.blk 0 = encB bt 1) (hfr : fr = 2 ∨ fr = 12) (hn : l.length ≤ 600) (hq : q < l.length) (hd : Laid s1 s4 (64 * fr + q) [y]) (h1 : (s1.blk 0).length = 64) (h4 : (s4.blk 0).length = 64) : Image s4 fr (l.set q y) ∧ s4.blk 0 = encB bt 1 := by
  have h22 := hi.n
  have hlow : ∀ x, x < 128 → s4.look x = s1.look x := fun x hx => by rw [hd.look x (by omega), if_neg (by omega)]
  refine ⟨⟨hd.n.trans hi.n, hd.down.trans hi.down, fun x a c => by rw [hlow x c]; exact hi.low x a c, fun x a c => ?_⟩, ?_⟩
  · rw [List.length_set] at c
    rw [hd.look x (by omega)]
    by_cases hx : x = 64 * fr + q
    · subst hx
      rw [if_pos (by simp), Nat.sub_self, Nat.add_sub_cancel_left, List.getD_eq_getElem?_getD, List.getD_eq_getElem?_getD, List.getElem?_set_self hq]
      rfl
    · rw [if_neg (by simp only [List.length_cons, List.length_nil]; omega), hi.img x a c, List.getD_eq_getElem?_getD, List.getD_eq_getElem?_getD, List.getElem?_set_ne (by omega)]
  · rw [← h0]
    exact blk_of_look s1 s4 0 h1 h4 fun x _ hx => hlow x (by omega)
end
end Go.Proofs.Ytfodboooopkheaa
