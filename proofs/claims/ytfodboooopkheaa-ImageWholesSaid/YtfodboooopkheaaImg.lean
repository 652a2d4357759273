/- The small functions of package image: numbers in bytes, which boots may be, areas. -/
import Derived.Test.YtfodboooopkheaaDisk2
namespace Go.Proofs.Ytfodboooopkheaa
open Go.RowKit

/-! ### Numbers in bytes -/
def numL : List Int → Int
  | l => l.foldl (fun a x => a * 256 + x) 0
theorem numL_snoc (l : List Int) (x : Int) : numL (l ++ [x]) = numL l * 256 + x := by simp [numL]
theorem numL_bd : ∀ (k : Nat) (l : List Int), l.length = k → Byt l → 0 ≤ numL l ∧ numL l < 256 ^ k
  | 0, l, hl, _ => by
    have : l = [] := List.eq_nil_of_length_eq_zero hl
    subst this
    exact ⟨by decide, by decide⟩
  | k + 1, l, hl, hb => by
    have hne : l ≠ [] := by intro e; subst e; simp at hl
    have e := List.dropLast_concat_getLast hne
    have hb1 : Byt l.dropLast := fun x hx => hb x (List.dropLast_subset l hx)
    have hx := hb (l.getLast hne) (List.getLast_mem hne)
    obtain ⟨h1, h2⟩ := numL_bd k l.dropLast (by simp [hl]) hb1
    rw [← e, numL_snoc, Int.pow_succ]
    generalize (256 : Int) ^ k = P at h2 ⊢
    generalize numL l.dropLast = N at h1 h2 ⊢
    omega
set_option maxRecDepth 100000 in
theorem or_low (x y : Int) (hx : 0 ≤ x) (hx1 : x < 72057594037927936) (hy : 0 ≤ y) (hy1 : y < 256) : bits .or .u64 (x * 256) y = x * 256 + y := by
  obtain ⟨a, rfl⟩ := Int.eq_ofNat_of_zero_le hx
  obtain ⟨b, rfl⟩ := Int.eq_ofNat_of_zero_le hy
  have h := u64_or_nat (a * 256) b (by omega) (by omega)
  have h2 : a * 256 ||| b = a * 256 + b := by
    have := Nat.shiftLeft_add_eq_or_of_lt (i := 8) (b := b) (by omega) a
    rw [Nat.shiftLeft_eq] at this
    exact this.symm
  rw [h2] at h
  have e1 : ((a * 256 : Nat) : Int) = (a : Int) * 256 := by omega
  rw [e1] at h
  rw [h]
  omega
theorem lt_pow7 : ∀ (k : Nat) (_ : k < 8) (N : Int), N < 256 ^ k → N < 72057594037927936
  | 0, _, N, h => by omega
  | 1, _, N, h => by omega
  | 2, _, N, h => by omega
  | 3, _, N, h => by omega
  | 4, _, N, h => by omega
  | 5, _, N, h => by omega
  | 6, _, N, h => by omega
  | 7, _, N, h => by omega
set_option maxRecDepth 100000 in
set_option maxHeartbeats 400000 in
theorem number_any (g off len cap : Nat) (t : TypeId) (L : List Int) (w : World) (hg : Blk w g t (U8 L)) (hb : Byt L) (hl : off + len ≤ L.length) (h8 : len ≤ 8) :
    Calls Try.prog 77 #[.slice (some ⟨g, off, none⟩) len cap] w fun e w' => e = .returned (.int .u64 (numL ((L.drop off).take len))) ∧ w = w' := by
  go_enter Try.func77, Try.ntmps77
  go_wp2
  go_loop [2, 7] (fun t i => ∃ k : Nat, k ≤ len ∧ i = .int .i64 k ∧ t = .int .u64 (numL ((L.drop off).take k))) (fun _ i => len - (intOf i).toNat)
  case atStart => exact ⟨0, Nat.zero_le _, rfl, rfl⟩
  case round =>
    obtain ⟨k, hk, rfl, rfl⟩ := hrel
    by_cases hlt : k < len
    · have hlt2 : off + k < L.length := by omega
      have hck : w.cell? ⟨g, off + k, none⟩ = some (.int .u8 L[off + k]) := by rw [hg.cell, get_U8_lt _ _ hlt2]
      have hx := hb.get hlt2
      have ht : (L.drop off).take (k + 1) = (L.drop off).take k ++ [L[off + k]] := by
        rw [List.take_succ_eq_append_getElem (by simp; omega)]
        simp
      obtain ⟨n0, n1⟩ := numL_bd k ((L.drop off).take k) (by simp; omega) ((hb.drop off).take k)
      have n3 : numL ((L.drop off).take k) < 72057594037927936 := lt_pow7 k (by omega) _ n1
      have T := Lib.hid ht
      clear ht n1 hb hg
      generalize L[off + k] = x at *
      generalize hN : numL ((L.drop off).take k) = N at *
      have HN := Lib.hid hN
      clear hN
      have hor := or_low N x n0 n3 hx.1 (by omega)
      have HO := Lib.hid hor
      clear hor
      go_wp2
      go_round
      case rel => exact ⟨k + 1, by omega, by go_num, by rw [T.out, numL_snoc, HN.out, ← HO.out]⟩
      case measure => simp [intOf]; omega
    · have : k = len := by omega
      subst this
      go_wp2
      go_ret
      exact ⟨rfl, rfl⟩

/-! ### Laying a number into bytes -/
/-- the last byte of a number, the one ahead of it, and so on -/
def byteAt (n : Int) (j : Nat) : Int := (n / 2 ^ (8 * j)) % 256
/-- k bytes, the highest first -/
def layL (n : Int) : Nat → List Int
  | 0 => []
  | k + 1 => byteAt n k :: layL n k
theorem len_layL (n : Int) : ∀ k, (layL n k).length = k
  | 0 => rfl
  | k + 1 => by simp [layL, len_layL n k]
theorem byt_layL (n : Int) : ∀ k, Byt (layL n k)
  | 0 => by intro x hx; cases hx
  | k + 1 => by
    intro x hx
    rcases List.mem_cons.1 hx with rfl | h
    · unfold byteAt; omega
    · exact byt_layL n k x h
theorem get_layL (n : Int) : ∀ k j, (h : j < k) → (layL n k)[j]'(by rw [len_layL]; exact h) = byteAt n (k - 1 - j)
  | k + 1, 0, _ => by simp [layL]
  | k + 1, j + 1, h => by
    simp only [layL, List.getElem_cons_succ]
    rw [get_layL n k j (by omega)]
    congr 1
    omega
/-- one byte more is laid -/
theorem over_step (L : List Int) (n : Int) (off len i : Nat) (hi : i < len) (hl : off + len ≤ L.length) :
    (over L (off + (len - i)) ((layL n len).drop (len - i))).set (off + (len - 1 - i)) (byteAt n i) = over L (off + (len - (i + 1))) ((layL n len).drop (len - (i + 1))) := by
  have e1 : (layL n len).drop (len - (i + 1)) = byteAt n i :: (layL n len).drop (len - i) := by
    rw [List.drop_eq_getElem_cons (by rw [len_layL]; omega), get_layL n len (len - (i + 1)) (by omega)]
    congr 2
    · omega
    · omega
  rw [e1]
  have e2 : off + (len - 1 - i) = off + (len - (i + 1)) := by omega
  rw [e2]
  generalize hd : (layL n len).drop (len - i) = D
  have hD : D.length = i := by rw [← hd]; simp [len_layL]; omega
  have hm : off + (len - (i + 1)) + (D.length + 1) = off + len := by omega
  have hm2 : off + (len - i) + D.length = off + len := by omega
  unfold over
  simp only [List.length_cons, hm, hm2]
  have h1 : off + (len - i) = (off + (len - (i + 1))) + 1 := by omega
  rw [h1, List.take_succ_eq_append_getElem (show off + (len - (i + 1)) < L.length by omega)]
  rw [List.set_append_left _ _ (by simp; omega), List.set_append_right _ _ (by simp; omega)]
  have h2 : off + (len - (i + 1)) - (List.take (off + (len - (i + 1))) L).length = 0 := by simp; omega
  rw [h2]
  simp
set_option maxRecDepth 100000 in
set_option maxHeartbeats 400000 in
theorem lay_any (g off len cap : Nat) (t : TypeId) (L : List Int) (n : Int) (w : World) (hg : Blk w g t (U8 L)) (hl : off + len ≤ L.length) (h8 : len ≤ 8) (_hn : 0 ≤ n) :
    Calls Try.prog 50 #[.slice (some ⟨g, off, none⟩) len cap, .int .u64 n] w fun e w' => e = .returned (.tuple #[]) ∧ Blk w' g t (U8 (over L off (layL n len))) ∧ Only w w' g := by
  go_enter Try.func50, Try.ntmps50
  go_wp2
  have G := Lib.hid hg
  go_loopw [7] (fun i wr => ∃ k : Nat, k ≤ len ∧ i = .int .i64 k ∧ Blk wr g t (U8 (over L (off + (len - k)) ((layL n len).drop (len - k)))) ∧ Only w wr g) (fun i _ => len - (intOf i).toNat)
  case atStart => exact ⟨0, Nat.zero_le _, rfl, (by rw [Nat.sub_zero, List.drop_eq_nil_of_le (by rw [len_layL]; exact Nat.le_refl _), over_nil]; exact G.out), rfl, rfl, rfl, rfl, fun _ _ => rfl⟩
  case round =>
    obtain ⟨k, hk, rfl, hb, ho⟩ := hrel
    by_cases hlt : k < len
    · have B := Lib.hid hb
      have O := Lib.hid ho
      clear hb ho hg
      have hlt2 : off + (len - 1 - k) < (over L (off + (len - k)) ((layL n len).drop (len - k))).length := by rw [length_over _ _ _ (by simp [len_layL]; omega)]; omega
      have hc : wr.cell? ⟨g, off + (len - 1 - k), none⟩ = some (.int .u8 (over L (off + (len - k)) ((layL n len).drop (len - k)))[off + (len - 1 - k)]) := by rw [B.out.cell, get_U8_lt _ _ hlt2]
      have hf := B.out.frozen (off + (len - 1 - k))
      go_wp2_with (fail)
      go_roundw
      case rel =>
        refine ⟨k + 1, by omega, by go_num, ?_, ?_⟩
        · have := B.out.set_ (off + (len - 1 - k)) (.int .u8 (n / 2 ^ (8 * k) % 256))
          rw [← over_step L n off len k hlt hl]
          have e : (U8 (over L (off + (len - k)) ((layL n len).drop (len - k)))).setIfInBounds (off + (len - 1 - k)) (.int .u8 (n / 2 ^ (8 * k) % 256)) = U8 ((over L (off + (len - k)) ((layL n len).drop (len - k))).set (off + (len - 1 - k)) (byteAt n k)) := by
            unfold U8 byteAt
            rw [List.map_set]
            simp
          rw [← e]
          exact this
        · have o := O.out
          exact ⟨o.os, o.tape, o.output, by simpa using o.size, fun x hx => (Below.heap_setCell _ _ _ _ hx).trans (o.block x hx)⟩
      case measure => simp [intOf]; omega
    · have : k = len := by omega
      subst this
      have B := Lib.hid hb
      have O := Lib.hid ho
      clear hb ho hg
      go_wp2_with (fail)
      go_end0
      exact ⟨rfl, by simpa using B.out, O.out⟩

/-! ### Which boots may be -/
structure BT where
  area : Int
  epoch : Int
  size : Int
  whole : List Int
def BT.cells (b : BT) : Array Value := (Value.int .i64 b.area :: Value.int .i64 b.epoch :: Value.int .i64 b.size :: b.whole.map (Value.int .u8)).toArray
def BT.zero : BT := ⟨0, 0, 0, List.replicate 32 0⟩
def BT.may (b : BT) : Prop := (b.area = 0 ∨ b.area = 1) ∧ 0 ≤ b.epoch ∧ b.epoch ≤ 1099511627776 ∧ 0 < b.size ∧ b.size ≤ 65536
instance (b : BT) : Decidable b.may := by unfold BT.may; exact inferInstance
theorem size_BT (b : BT) (h : b.whole.length = 32) : b.cells.size = 35 := by simp [BT.cells, h]
theorem one_BT (b : BT) : ∀ v ∈ b.cells.toList, v.oneCell' = true := by
  intro v hv
  simp only [BT.cells, List.mem_cons] at hv
  rcases hv with rfl | rfl | rfl | hv
  · rfl
  · rfl
  · rfl
  · exact one_map b.whole v hv
/-- what values of boots' fields can be -/
def BT.wf (b : BT) : Prop := -9223372036854775808 ≤ b.area ∧ b.area ≤ 9223372036854775807 ∧ -9223372036854775808 ≤ b.epoch ∧ b.epoch ≤ 9223372036854775807 ∧ -9223372036854775808 ≤ b.size ∧ b.size ≤ 9223372036854775807 ∧ b.whole.length = 32 ∧ Byt b.whole
set_option maxRecDepth 100000 in
theorem andNot_one (a : Int) (h1 : -9223372036854775808 ≤ a) (h2 : a ≤ 9223372036854775807) (h0 : ¬ a = 0) (h3 : ¬ a = 1) : (bits .andNot .i64 a 1 == 0) = false := by
  have key : bits .andNot .i64 a 1 = 0 → False := by
    intro h
    have e : bits .andNot .i64 a 1 = IntKind.i64.wrap ((BitVec.ofInt 64 a &&& ~~~BitVec.ofInt 64 1).toNat : Int) := rfl
    rw [e, BitVec.toNat_and, BitVec.toNat_not, IntKind.wrap_i64] at h
    have e1 : (BitVec.ofInt 64 1).toNat = 1 := by decide
    rw [e1] at h
    have hA : ((BitVec.ofInt 64 a).toNat : Int) = a % 18446744073709551616 := by
      rw [BitVec.toNat_ofInt]
      have : (0 : Int) ≤ a % ((2 ^ 64 : Nat) : Int) := Int.emod_nonneg _ (by decide)
      rw [Int.toNat_of_nonneg this]
      rfl
    generalize (BitVec.ofInt 64 a).toNat = A at h hA
    have hAl : A < 2 ^ 64 := by omega
    have hx : A &&& (2 ^ 64 - 1 - 1) < 2 ^ 64 := Nat.and_lt_two_pow _ (by decide)
    have h5 : A &&& (2 ^ 64 - 1 - 1) = 0 := by omega
    have h6 : (A &&& (2 ^ 64 - 1 - 1)) / 2 = A / 2 &&& (2 ^ 63 - 1) := by
      rw [Nat.and_div_two]
    rw [h5, Nat.and_two_pow_sub_one_eq_mod] at h6
    omega
  simpa using fun h => key h
set_option maxRecDepth 100000 in
set_option maxHeartbeats 400000 in
theorem may_yes (b : BT) (w : World) (hb : b.may) : Calls Try.prog 49 #[.agg b.cells] w fun e w' => e = .returned (.bool true) ∧ Below w.heap.size w w' := by
  have h0 : b.cells[0]? = some (.int .i64 b.area) := rfl
  have h1 : b.cells[1]? = some (.int .i64 b.epoch) := rfl
  have h2 : b.cells[2]? = some (.int .i64 b.size) := rfl
  obtain ⟨ha, he1, he2, hs1, hs2⟩ := hb
  obtain ⟨a, e, s, l⟩ := b
  simp only at ha he1 he2 hs1 hs2 h0 h1 h2
  generalize BT.cells ⟨a, e, s, l⟩ = C at *
  rcases ha with rfl | rfl
  · have hz : (bits .andNot .i64 0 1 == 0) = true := by decide
    go_enter Try.func49, Try.ntmps49
    go_wp2
    go_ret
    exact ⟨rfl, (Below.refl _ _).alloc (Nat.le_refl _) _⟩
  · have hz : (bits .andNot .i64 1 1 == 0) = true := by decide
    go_enter Try.func49, Try.ntmps49
    go_wp2
    go_ret
    exact ⟨rfl, (Below.refl _ _).alloc (Nat.le_refl _) _⟩
set_option maxRecDepth 100000 in
set_option maxHeartbeats 400000 in
theorem may_no (b : BT) (w : World) (hw : b.wf) (hb : ¬ b.may) : Calls Try.prog 49 #[.agg b.cells] w fun e w' => e = .returned (.bool false) ∧ Below w.heap.size w w' := by
  have h0 : b.cells[0]? = some (.int .i64 b.area) := rfl
  have h1 : b.cells[1]? = some (.int .i64 b.epoch) := rfl
  have h2 : b.cells[2]? = some (.int .i64 b.size) := rfl
  obtain ⟨wa1, wa2, _⟩ := hw
  obtain ⟨a, e, s, l⟩ := b
  unfold BT.may at hb
  simp only at hb wa1 wa2 h0 h1 h2
  generalize BT.cells ⟨a, e, s, l⟩ = C at *
  by_cases ha : a = 0 ∨ a = 1
  · have hz : (bits .andNot .i64 a 1 == 0) = true := by rcases ha with rfl | rfl <;> decide
    by_cases he : 0 ≤ e
    · by_cases he2 : e ≤ 1099511627776
      · by_cases hs : 0 < s
        · have hs2 : ¬ s ≤ 65536 := fun h => hb ⟨ha, he, he2, hs, h⟩
          clear hb ha wa1 wa2
          go_enter Try.func49, Try.ntmps49
          go_wp2
          go_ret
          exact ⟨rfl, (Below.refl _ _).alloc (Nat.le_refl _) _⟩
        · clear hb ha wa1 wa2
          go_enter Try.func49, Try.ntmps49
          go_wp2
          go_ret
          exact ⟨rfl, (Below.refl _ _).alloc (Nat.le_refl _) _⟩
      · clear hb ha wa1 wa2
        go_enter Try.func49, Try.ntmps49
        go_wp2
        go_ret
        exact ⟨rfl, (Below.refl _ _).alloc (Nat.le_refl _) _⟩
    · clear hb ha wa1 wa2
      go_enter Try.func49, Try.ntmps49
      go_wp2
      go_ret
      exact ⟨rfl, (Below.refl _ _).alloc (Nat.le_refl _) _⟩
  · have hz : (bits .andNot .i64 a 1 == 0) = false := andNot_one a wa1 wa2 (fun h => ha (.inl h)) (fun h => ha (.inr h))
    clear hb ha wa1 wa2
    go_enter Try.func49, Try.ntmps49
    go_wp2
    go_ret
    exact ⟨rfl, (Below.refl _ _).alloc (Nat.le_refl _) _⟩
theorem may_any (b : BT) (w : World) (hw : b.wf) : Calls Try.prog 49 #[.agg b.cells] w fun e w' => e = .returned (.bool (decide b.may)) ∧ Below w.heap.size w w' := by
  by_cases h : b.may
  · rw [decide_eq_true h]; exact may_yes b w h
  · rw [decide_eq_false h]; exact may_no b w hw h

/-! ### Areas -/
set_option maxRecDepth 100000 in
set_option maxHeartbeats 400000 in
theorem area_yes (p : DP) (s : DS) (from_ room : Int) (w : World) (h : Disk w p s) (h0 : 0 ≤ from_) (h1 : 0 ≤ room) (h2 : from_ + room ≤ (s.n : Int)) :
    Calls Try.prog 48 #[.pointer (some ⟨p.bd, 0, none⟩), .int .i64 from_, .int .i64 room] w fun e w' => e = .returned (.bool true) ∧ w = w' := by
  have H := Lib.hid h
  have hN := h.nmax
  have hf : from_ ≤ (s.n : Int) := by omega
  have hr : room ≤ (s.n : Int) - from_ := by omega
  clear h
  go_enter Try.func48, Try.ntmps48
  go_wp2_with (go_at_call 76; refine (dblocks_any p s _ H.out).mono ?_; rintro e w' ⟨rfl, rfl⟩)
  go_ret
  exact ⟨rfl, rfl⟩
set_option maxRecDepth 100000 in
set_option maxHeartbeats 400000 in
theorem blocks_any (n : Int) (w : World) (h1 : 0 < n) (h2 : n ≤ 1000000) :
    Calls Try.prog 43 #[.int .i64 n] w fun e w' => e = .returned (.int .i64 ((n - 1) / 64 + 1)) ∧ w = w' := by
  have h : ¬ n ≤ 0 := by omega
  go_enter Try.func43, Try.ntmps43
  go_wp2
  go_ret
  exact ⟨rfl, rfl⟩
end Go.Proofs.Ytfodboooopkheaa
