/- plain laws of a disk's blocks: what a flush leaves of them, what a crash tears of the one that is fresh, and what a torn boot block says. -/
import Derived.Test.YtfodboooopkheaaPure
namespace Go.Proofs.Ytfodboooopkheaa
open Go.RowKit

/-! ### A new disk; a Put that is refused -/
set_option maxRecDepth 100000 in
set_option maxHeartbeats 400000 in
theorem put_no (p : DP) (s : DS) (from_ room at_ len cap : Nat) (pa : Option Addr) (w : World) (h : Disk w p s) (h1 : from_ + room ≤ s.n) (h2 : at_ ≤ 64 * room) (h3 : 64 * room < at_ + len) (h4 : len ≤ 1000000) :
    Calls Try.prog 11 #[.pointer (some ⟨p.bd, 0, none⟩), .int .i64 (from_ : Int), .int .i64 (room : Int), .int .i64 (at_ : Int), .slice pa len cap] w fun e w' => e = .returned (.int .i64 1) ∧ w = w' := by
  have H := Lib.hid h
  have hN := h.nmax
  clear h
  go_enter Try.func11, Try.ntmps11
  go_wp2_with (first
    | (go_at_call 48; refine (area_yes p s from_ room _ H.out (by omega) (by omega) (by omega)).mono ?_; rintro e w' ⟨rfl, rfl⟩))
  go_ret
  exact ⟨rfl, rfl⟩
def newS (n : Nat) : DS := ⟨n, List.replicate (64 * n) 0, [], false⟩
theorem blk_new (n : Nat) (k : Int) (h0 : 0 ≤ k) (h1 : k < (n : Int)) : (newS n).blk k = Z64 := by
  show ((List.replicate (64 * n) (0 : Int)).drop (64 * k.toNat)).take 64 = Z64
  rw [List.drop_replicate, List.take_replicate, Nat.min_eq_left (by omega)]
  rfl
theorem readB_zero : readB Z64 = (BT.zero, 0) := by
  unfold readB
  refine if_neg fun h => ?_
  have := h.2.2.2.2.2.2.1
  revert this
  decide
theorem best_new (n : Nat) (at_ : Int) (h0 : 0 ≤ at_) (h1 : at_ + 2 ≤ (n : Int)) : bestN (newS n) at_ 2 = (BT.zero, 0) := by
  rw [bestN_two, blk_new n at_ h0 (by omega), blk_new n (at_ + 1) (by omega) (by omega), readB_zero]
  rfl
/-! ### Blocks -/
theorem block_over (dur l : List Int) (k m n : Nat) (hl : l.length ≤ 64) (hs : dur.length = 64 * n) (hk : k < n) (hm : m < n) :
    ((over dur (64 * k) l).drop (64 * m)).take 64 = if m = k then l ++ ((dur.drop (64 * m)).take 64).drop l.length else (dur.drop (64 * m)).take 64 := by
  apply List.ext_getElem?
  intro i
  by_cases hi : i < 64
  · rw [List.getElem?_take, if_pos hi, List.getElem?_drop]
    unfold over
    simp only [List.getElem?_append, List.length_take, List.getElem?_take, List.getElem?_drop]
    by_cases hmk : m = k
    · subst hmk
      rw [if_pos rfl, if_neg (by omega), List.getElem?_append]
      by_cases h2 : i < l.length
      · rw [if_pos (by omega), if_pos h2]
        congr 1; omega
      · rw [if_neg (by omega), if_neg h2, List.getElem?_drop, List.getElem?_take, if_pos (by omega), List.getElem?_drop]
        congr 1; omega
    · rw [if_neg hmk, List.getElem?_take, if_pos hi, List.getElem?_drop]
      by_cases h1 : m < k
      · rw [if_pos (by omega), if_pos (by omega)]
      · rw [if_neg (by omega), if_neg (by omega)]
        congr 1; omega
  · rw [List.getElem?_take, if_neg hi]
    split
    · rw [List.getElem?_eq_none]
      simp; omega
    · rw [List.getElem?_take, if_neg hi]
theorem getI_snoc (f : List (Int × List Int)) (q : Int × List Int) (m : Int) : getI (f ++ [q]) m = match getI f m with | some l => some l | none => if m = q.1 then some q.2 else none := by
  induction f with
  | nil => rfl
  | cons p r ih =>
    simp only [List.cons_append, getI]
    split
    · rfl
    · exact ih
/-- a flush changes nothing of what the blocks read as -/
theorem flushed_blk (s : DS) (m : Int) (hs : s.dur.length = 64 * s.n) (hk : ∀ q ∈ s.fresh, 0 ≤ q.1 ∧ q.1 < (s.n : Int) ∧ q.2.length = 64) (hd : (s.fresh.map (·.1)).Nodup) (m0 : 0 ≤ m) (m1 : m < (s.n : Int)) : s.flushed.blk m = s.blk m := by
  obtain ⟨M, rfl⟩ := Int.eq_ofNat_of_zero_le m0
  have key : ∀ i, i ≤ s.fresh.length → ((layN (fun _ => 64) s.fresh s.dur i).drop (64 * M)).take 64 = (getI (s.fresh.take i) (M : Int)).getD ((s.dur.drop (64 * M)).take 64) := by
    intro i
    induction i with
    | zero => intro _; rfl
    | succ i ih =>
      intro hi
      have hq : s.fresh[i]? = some s.fresh[i] := List.getElem?_eq_getElem (by omega)
      have hkq := hk _ (List.getElem_mem (show i < s.fresh.length by omega))
      have hln := len_layN (k := fun _ => 64) hs (fun q hq => hk q hq) i
      simp only [layN, hq]
      rw [List.take_succ_eq_append_getElem (show i < s.fresh.length by omega), getI_snoc, block_over _ _ _ _ s.n (by simp; omega) hln (by omega) (by omega), ih (by omega)]
      generalize hqq : s.fresh[i] = q at *
      by_cases hMq : (M : Int) = q.1
      · have ht : q.2.take 64 = q.2 := List.take_of_length_le (by omega)
        rw [if_pos (by omega), ht]
        have hn : getI (s.fresh.take i) (M : Int) = none := by
          cases hg : getI (s.fresh.take i) (M : Int) with
          | none => rfl
          | some l =>
            exfalso
            have hm := mem_of_getI hg
            obtain ⟨j, hj, hje⟩ := List.getElem_of_mem hm
            simp only [List.length_take] at hj
            rw [List.getElem_take] at hje
            have h1 : (s.fresh.map (·.1))[j]'(by simp; omega) = (M : Int) := by simp [hje]
            have h2 : (s.fresh.map (·.1))[i]'(by simp; omega) = (M : Int) := by simp [hqq, hMq]
            exact (List.pairwise_iff_getElem.1 hd) j i (by simp; omega) (by simp; omega) (by omega) (h1.trans h2.symm)
        rw [hn]
        simp only [hMq, if_true, Option.getD_some, Option.getD_none]
        rw [List.drop_of_length_le (by simp; omega), List.append_nil]
      · rw [if_neg (by omega)]
        cases hg : getI (s.fresh.take i) (M : Int) with
        | none => simp [hMq]
        | some l => rfl
  have h := key s.fresh.length (Nat.le_refl _)
  rw [List.take_length] at h
  unfold DS.blk DS.flushed
  simp only [getI, Option.getD_none, Int.toNat_natCast]
  exact h
theorem Disk.flushed_blk {w : World} {p : DP} {s : DS} (h : Disk w p s) (m : Int) (m0 : 0 ≤ m) (m1 : m < (s.n : Int)) : s.flushed.blk m = s.blk m :=
  Ytfodboooopkheaa.flushed_blk s m h.len (fun q hq => ⟨(h.keys q hq).1, (h.keys q hq).2.1, (h.keys q hq).2.2.1⟩) h.nd m0 m1
/-- two disks of as many blocks that look alike over a block have it alike -/
theorem blk_of_look (s s' : DS) (m : Nat) (h1 : (s.blk (m : Int)).length = 64) (h2 : (s'.blk (m : Int)).length = 64) (h : ∀ x, 64 * m ≤ x → x < 64 * m + 64 → s'.look x = s.look x) : s'.blk (m : Int) = s.blk (m : Int) := by
  apply List.ext_getElem (by omega)
  intro i i1 i2
  have := h (64 * m + i) (by omega) (by omega)
  unfold DS.look at this
  rw [show (64 * m + i) / 64 = m by omega, show (64 * m + i) % 64 = i by omega, List.getD_eq_getElem?_getD, List.getD_eq_getElem?_getD, List.getElem?_eq_getElem i1, List.getElem?_eq_getElem i2] at this
  simpa using this
/-- what a crash leaves of a disk with one fresh block -/
theorem crashed_blk (s : DS) (k m : Nat) (l : List Int) (fate : Int) (hf : s.fresh = []) (hl : l.length = 64) (hs : s.dur.length = 64 * s.n) (hk : k < s.n) (hm : m < s.n) :
    ((s.put (k : Int) l).crashed fate).blk (m : Int) = if m = k then l.take ((min (max fate 0) 64).toNat) ++ (s.blk (m : Int)).drop ((min (max fate 0) 64).toNat) else s.blk (m : Int) := by
  unfold DS.crashed DS.put DS.blk
  simp only [hf, putI, getI, Option.getD_none, List.length_cons, List.length_nil, layN, Int.toNat_natCast]
  show (((over s.dur (64 * k) (l.take ((min (max fate 0) 64).toNat))).drop (64 * m)).take 64) = _
  rw [block_over _ _ _ _ s.n (by simp; omega) hs hk hm, List.length_take, Nat.min_eq_left (by omega)]
/-- numbers of as many bytes that are alike have the bytes alike -/
theorem numL_inj : ∀ (k : Nat) (l m : List Int), l.length = k → m.length = k → Byt l → Byt m → numL l = numL m → l = m
  | 0, l, m, hl, hm, _, _, _ => by rw [List.length_eq_zero_iff.1 hl, List.length_eq_zero_iff.1 hm]
  | k + 1, l, m, hl, hm, bl, bm, h => by
    obtain ⟨l', x, rfl⟩ : ∃ l' x, l = l' ++ [x] := ⟨l.dropLast, l.getLast (by intro e; rw [e] at hl; simp at hl), (List.dropLast_concat_getLast _).symm⟩
    obtain ⟨m', y, rfl⟩ : ∃ l' x, m = l' ++ [x] := ⟨m.dropLast, m.getLast (by intro e; rw [e] at hm; simp at hm), (List.dropLast_concat_getLast _).symm⟩
    rw [numL_snoc, numL_snoc] at h
    have hx := bl x (by simp)
    have hy := bm y (by simp)
    have e1 : numL l' = numL m' := by omega
    have e2 : x = y := by omega
    rw [numL_inj k l' m' (by simpa using hl) (by simpa using hm) (fun z hz => bl z (by simp [hz])) (fun z hz => bm z (by simp [hz])) e1, e2]
theorem len_encB (b : BT) (n : Int) (h : b.whole.length = 32) : (encB b n).length = 64 := by rw [encB_eq b n h]; simp [len_layL, h]
theorem byt_encB (b : BT) (n : Int) (h : b.whole.length = 32) (hw : Byt b.whole) (ha : 0 ≤ b.area ∧ b.area ≤ 255) : Byt (encB b n) := by
  rw [encB_eq b n h]
  intro x hx
  simp only [List.mem_append, List.mem_cons, List.not_mem_nil, or_false] at hx
  rcases hx with hx | rfl | hx | hx | hx | ((rfl | rfl | rfl) | hx)
  · exact byt_layL _ _ x hx
  · exact ha
  · exact byt_layL _ _ x hx
  · exact byt_layL _ _ x hx
  · exact hw x hx
  · omega
  · omega
  · omega
  · exact byt_layL _ _ x hx
theorem head_encB (b : BT) (n : Int) (h : b.whole.length = 32) : (encB b n).take 8 = layL n 8 := by rw [encB_eq b n h]; rfl
theorem tail_encB (b : BT) (n : Int) (h : b.whole.length = 32) : ((encB b n).drop 56).take 8 = layL n 8 := by
  have d53 : (encB b n).drop 53 = [0, 0, 0] ++ layL n 8 := by
    rw [encB_eq b n h, show (53 : Nat) = 21 + 32 from rfl, ← List.drop_drop]; exact List.drop_left' h
  rw [show (56 : Nat) = 53 + 3 from rfl, ← List.drop_drop, d53]
  rfl
theorem readB_no (x : List Int) (h : numL (x.take 8) ≠ numL ((x.drop 56).take 8)) : readB x = (BT.zero, 0) := by
  unfold readB
  exact if_neg fun hh => h hh.2.1
theorem readB_cnt (x : List Int) : readB x = (BT.zero, 0) ∨ ((readB x).2 = numL (x.take 8) ∧ numL (x.take 8) = numL ((x.drop 56).take 8)) := by
  unfold readB
  split
  · rename_i h; exact .inr ⟨rfl, h.2.1⟩
  · exact .inl rfl
/-- what a torn boot block says: the new one, or one of a lower number -/
theorem readB_torn (b : BT) (n : Int) (old : List Int) (t : Nat) (hw : b.wf) (hm : b.may) (h1 : 1 ≤ n) (h2 : n + 1 ≤ 1099511627776) (ho : old.length = 64) (hb : Byt old) (hn : numL ((old.drop 56).take 8) = n - 1) (ht : t ≤ 64) :
    readB ((encB b (n + 1)).take t ++ old.drop t) = (b, n + 1) ∨ (readB ((encB b (n + 1)).take t ++ old.drop t)).2 < n := by
  have hl := hw.2.2.2.2.2.2.1
  have hby := hw.2.2.2.2.2.2.2
  have hel := len_encB b (n + 1) hl
  have heb := byt_encB b (n + 1) hl hby (by have := hm.1; omega)
  have hnum : numL (layL (n + 1) 8) = n + 1 := numL_layL _ 8 (by omega) (by show n + 1 < (18446744073709551616 : Int); omega)
  by_cases h56 : t ≤ 56
  · have e : (((encB b (n + 1)).take t ++ old.drop t).drop 56).take 8 = (old.drop 56).take 8 := by
      rw [List.drop_append, List.drop_of_length_le (by simp; omega), List.nil_append, List.length_take, Nat.min_eq_left (by omega), List.drop_drop, show t + (56 - t) = 56 by omega]
    rcases readB_cnt ((encB b (n + 1)).take t ++ old.drop t) with h | ⟨h, h'⟩
    · right; rw [h]; show (0 : Int) < n; omega
    · right; rw [h, h', e, hn]; omega
  · have e : ((encB b (n + 1)).take t ++ old.drop t).take 8 = layL (n + 1) 8 := by
      rw [List.take_append_of_le_length (by simp; omega), List.take_take, Nat.min_eq_left (by omega), head_encB b _ hl]
    by_cases hc : numL (layL (n + 1) 8) = numL ((((encB b (n + 1)).take t ++ old.drop t).drop 56).take 8)
    · left
      have e8 := numL_inj 8 _ _ (len_layL _ _) (by simp; omega) (byt_layL _ _) (by
        intro x hx
        have hx := List.mem_of_mem_drop (List.mem_of_mem_take hx)
        rcases List.mem_append.1 hx with hx | hx
        · exact heb x (List.mem_of_mem_take hx)
        · exact hb x (List.mem_of_mem_drop hx)) hc
      have hx : (encB b (n + 1)).take t ++ old.drop t = encB b (n + 1) := by
        have p1 : ((encB b (n + 1)).take t ++ old.drop t).take 56 = (encB b (n + 1)).take 56 := by
          rw [List.take_append_of_le_length (by simp; omega), List.take_take, Nat.min_eq_left (by omega)]
        have p2 : ((encB b (n + 1)).take t ++ old.drop t).drop 56 = (encB b (n + 1)).drop 56 := by
          have q1 : (((encB b (n + 1)).take t ++ old.drop t).drop 56).take 8 = ((encB b (n + 1)).take t ++ old.drop t).drop 56 := List.take_of_length_le (by simp; omega)
          have q2 : ((encB b (n + 1)).drop 56).take 8 = (encB b (n + 1)).drop 56 := List.take_of_length_le (by simp; omega)
          rw [← q1, ← q2, ← e8, tail_encB b _ hl]
        rw [← List.take_append_drop 56 ((encB b (n + 1)).take t ++ old.drop t), p1, p2, List.take_append_drop]
      rw [hx]
      exact readB_encB b (n + 1) hw hm (by omega) h2
    · right
      rw [readB_no _ (by rw [e]; exact hc)]
      show (0 : Int) < n
      omega
/-- the best of two blocks -/
theorem best_pair (s : DS) (k : Nat) (r q : BT × Int) (hk : k = 0 ∨ k = 1) (hp : readB (s.blk ((1 - k : Nat) : Int)) = r) (hq : readB (s.blk (k : Int)) = q) (hr : 1 ≤ r.2) (hne : r.2 ≠ q.2) :
    bestN s 0 2 = if r.2 < q.2 then q else r := by
  rw [bestN_two]
  rcases hk with rfl | rfl
  · have e0 : s.blk 0 = s.blk ((0 : Nat) : Int) := rfl
    have e1 : s.blk (0 + 1) = s.blk ((1 - 0 : Nat) : Int) := rfl
    rw [e0, e1, hp, hq]
    by_cases hq0 : 0 < q.2
    · rw [if_pos hq0]
      by_cases h : r.2 < q.2
      · rw [if_pos h, if_neg (by omega)]
      · rw [if_neg h, if_pos (by omega)]
    · rw [if_neg hq0, if_pos (show ((BT.zero, (0 : Int))).2 < r.2 by show (0 : Int) < r.2; omega), if_neg (by omega)]
  · have e0 : s.blk 0 = s.blk ((1 - 1 : Nat) : Int) := rfl
    have e1 : s.blk (0 + 1) = s.blk ((1 : Nat) : Int) := rfl
    rw [e0, e1, hp, hq, if_pos (show 0 < r.2 by omega)]
end Go.Proofs.Ytfodboooopkheaa
