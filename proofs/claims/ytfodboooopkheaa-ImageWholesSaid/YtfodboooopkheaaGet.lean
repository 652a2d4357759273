/- image.Get: reads an area. -/
import Derived.Test.YtfodboooopkheaaPut
namespace Go.Proofs.Ytfodboooopkheaa
open Go.RowKit

/-- what lies from a place on, so many bytes -/
def DS.from_ (s : DS) (at_ n : Nat) : List Int := (List.range n).map fun i => s.look (at_ + i)
theorem len_from (s : DS) (at_ n : Nat) : (s.from_ at_ n).length = n := by simp [DS.from_]
theorem get_from (s : DS) (at_ n i : Nat) (h : i < n) : (s.from_ at_ n)[i]'(by rw [len_from]; exact h) = s.look (at_ + i) := by simp [DS.from_]
theorem from_block (s : DS) (b : Nat) (h : (s.blk (b : Int)).length = 64) : s.from_ (64 * b) 64 = s.blk (b : Int) := by
  apply List.ext_getElem
  · rw [len_from, h]
  · intro i h1 h2
    rw [get_from _ _ _ _ (by rw [len_from] at h1; exact h1)]
    unfold DS.look
    rw [len_from] at h1
    rw [show (64 * b + i) / 64 = b by omega, show (64 * b + i) % 64 = i by omega, List.getD_eq_getElem?_getD, List.getElem?_eq_getElem h2]
    rfl
theorem from_add (s : DS) (at_ n m : Nat) : s.from_ at_ (n + m) = s.from_ at_ n ++ s.from_ (at_ + n) m := by
  simp [DS.from_, List.range_add, Nat.add_assoc]
theorem byt_from {w : World} {p : DP} {s : DS} (h : Disk w p s) (at_ n : Nat) (hn : at_ + n ≤ 64 * s.n) : Byt (s.from_ at_ n) := by
  intro x hx
  obtain ⟨i, hi, rfl⟩ := List.mem_map.1 hx
  rw [List.mem_range] at hi
  have := blk_ok h (((at_ + i) / 64 : Nat) : Int) (by omega) (by omega)
  unfold DS.look
  rw [List.getD_eq_getElem?_getD, List.getElem?_eq_getElem (by rw [this.1]; exact Nat.mod_lt _ (by omega))]
  exact this.2 _ (List.getElem_mem _)
/-- an own row of bytes is a block that is known as far as it is full -/
theorem own_cells {w : World} {base g n cap : Nat} {e : TypeId} {xs : List Value} (h : w.ownsRow base e 1 (.slice (some ⟨g, 0, none⟩) n cap) n xs) : n ≤ cap ∧ base ≤ g ∧ g < w.heap.size ∧ ∀ i, (hi : i < xs.length) → w.cell? ⟨g, i, none⟩ = some xs[i] := by
  rcases h.2 with ⟨h1, _⟩ | ⟨g', cap', cur, h1, h2, h3, h4, h5, h6, h7⟩
  · cases h1
  · cases h1
    refine ⟨h4, h2, lt_of_heap h3, fun i hi => ?_⟩
    rw [Blk.cell (t := e) (cs := cur) h3]
    subst h7
    have hl : i < n * 1 := by simp at hi; omega
    simp only [Nat.mul_one] at hl
    simp only [Nat.mul_one, List.getElem_take, Array.getElem_toList]
    exact Array.getElem?_eq_getElem _
def GetAt (w : World) (s : DS) (A : Nat) (i : Nat) (v : Value) (wr : World) : Prop :=
  wr.ownsRow w.heap.size 5 1 v (64 * i) ((s.from_ A (64 * i)).map (Value.int .u8)) ∧ Below w.heap.size w wr
set_option maxRecDepth 100000 in
set_option maxHeartbeats 1000000 in
theorem get_ok (p : DP) (s : DS) (from_ room size : Nat) (w : World) (h : Disk w p s) (hd : s.down = false) (h1 : from_ + room ≤ s.n) (h2 : size ≤ 64 * room) (h3 : 0 < size) :
    Calls Try.prog 42 #[.pointer (some ⟨p.bd, 0, none⟩), .int .i64 (from_ : Int), .int .i64 (room : Int), .int .i64 (size : Int)] w fun e w' =>
      ∃ g cap, e = .returned (.tuple #[.slice (some ⟨g, 0, none⟩) size cap, .int .i64 0]) ∧ Below w.heap.size w w' ∧ w.heap.size ≤ g ∧ g < w'.heap.size ∧ size ≤ cap ∧ ∀ i, (hi : i < size) → w'.cell? ⟨g, i, none⟩ = some (.int .u8 (s.look (64 * from_ + i))) := by
  have H := Lib.hid h
  have hN := h.nmax
  obtain ⟨nb, hnb⟩ : ∃ nb : Nat, nb = (size - 1) / 64 + 1 := ⟨_, rfl⟩
  have BK := Lib.hid (show ∀ V, Calls Try.prog 43 #[.int .i64 (size : Int)] V fun e w' => e = .returned (.int .i64 (nb : Int)) ∧ V = w' from fun V => by
    have := blocks_any (size : Int) V (by omega) (by omega)
    rwa [show ((size : Int) - 1) / 64 + 1 = (nb : Int) by omega] at this)
  have NB := Lib.hid hnb
  have hnb2 : nb ≤ room := by omega
  have hnb3 : size ≤ 64 * nb := by omega
  clear h hnb
  go_enter Try.func42, Try.ntmps42
  go_wp2_with (first
    | (go_at_call 48; refine (area_yes p s from_ room _ H.out (by omega) (by omega) (by omega)).mono ?_; rintro e w' ⟨rfl, rfl⟩)
    | (go_at_call 43; refine (BK.out _).mono ?_; rintro e w' ⟨rfl, rfl⟩))
  have II := Lib.hid (show GetAt w s (64 * from_) 0 (.slice none 0 0) w from ⟨⟨rfl, .inl ⟨rfl, rfl⟩⟩, Below.refl _ _⟩)
  go_loopw [8, 30] (fun v i wr => ∃ (k : Nat) (v' : Value), k ≤ nb ∧ v' = v ∧ i = .int .i64 (k : Int) ∧ GetAt w s (64 * from_) k v' wr) (fun _ i _ => nb - (intOf i).toNat)
  case atStart => exact ⟨0, _, Nat.zero_le _, rfl, rfl, II.out⟩
  case round =>
    obtain ⟨k, v, hk, rfl, rfl, hI⟩ := hrel
    by_cases hlt : k < nb
    · obtain ⟨hown, hbel⟩ := hI
      obtain ⟨X, hX⟩ : ∃ X, X = s.blk ((from_ + k : Nat) : Int) := ⟨_, rfl⟩
      have D := Lib.hid (H.out.below hbel)
      have hxx := blk_ok H.out ((from_ + k : Nat) : Int) (by omega) (by omega)
      rw [← hX] at hxx
      have RD := Lib.hid (show Calls Try.prog 15 #[.pointer (some ⟨p.bd, 0, none⟩), .int .i64 ((from_ : Int) + (k : Int))] wr fun e w' => e = .returned (.tuple #[.agg (U8 X), .int .i64 0]) ∧ Below wr.heap.size wr w' by
        have := read_ok p s ((from_ + k : Nat) : Int) wr D.out hd (by omega) (by omega)
        rwa [← hX, Int.natCast_add] at this)
      obtain ⟨xs, hxs⟩ : ∃ xs, xs = (s.from_ (64 * from_) (64 * k)).map (Value.int .u8) := ⟨_, rfl⟩
      rw [← hxs] at hown
      have hnext : (s.from_ (64 * from_) (64 * (k + 1))).map (Value.int .u8) = xs ++ X.map (Value.int .u8) := by
        rw [show 64 * (k + 1) = 64 * k + 64 by omega, from_add, List.map_append, ← hxs, show 64 * from_ + 64 * k = 64 * (from_ + k) by omega, from_block _ _ (by rw [← hX]; exact hxx.1), ← hX]
      have OWN := Lib.hid hown
      have BEL := Lib.hid hbel
      have XL := Lib.hid hxx.1
      have XS := Lib.hid (show (Try.prog.info? 38).map (·.size) = some (U8 X).size by rw [size_U8, hxx.1]; exact size38)
      have NX := Lib.hid hnext
      obtain ⟨sa, sc, rfl⟩ := own_form hown
      obtain ⟨i0, hi, hz0, hz1, hz2⟩ := info_parts info5
      clear hown hbel hX hxx hxs hnext
      go_wp2_with (first
        | (go_at_call 15; refine RD.out.mono ?_; rintro e w3 ⟨rfl, b3⟩; have B3 := Lib.hid b3; clear b3)
        | (refine wpList_new rfl 38 rfl _ run_zero38 w3.heap.size rfl ?_; intro w4 g0 hs4 hb4; have G4 := Lib.hid (show Blk w4 w3.heap.size 38 (U8 Z64) from g0); have B4 := Lib.hid hb4; clear g0 hb4)
        | (refine wpList_store_blk rfl 38 _ _ rfl w3.heap.size 38 _ (U8 X) rfl rfl G4.out (by rw [size_U8, size_U8, XL.out, len_Z64]) XS.out (one_U8 _) ?_; intro w5 g5 ho5; have G5 := Lib.hid g5; have O5 := Lib.hid ho5; clear g5 ho5
           have K5 := Lib.hid (show Kept wr w5 (fun _ => False) from Only.kept (Kept.below (B3.out.trans (B4.out.mono B3.out.size))) O5.out (.inr B3.out.size)))
        | (at_builtin; refine wpList_append_own_at _ rfl _ _ 22 rfl w.heap.size 5 i0 (.int .u8 0) 1 1 Try.underlying22 hi hz0 hz1 hz2 rfl (by decide) (.slice sa (64 * k) sc) (64 * k) xs rfl (own_kept OWN.out K5.out (fun _ _ x => x)) ⟨w3.heap.size, 0, none⟩ 64 64 (X.map (Value.int .u8)) rfl (by rw [List.length_map, XL.out])
             (fun j u hj => by rw [add_at, G5.out.cell, Nat.zero_add]; simpa [U8] using hj) (one_map X) (by unfold maxLen; omega) (by omega) (Nat.le_trans BEL.out.size K5.out.size) ?_
           intro v' w6 own6 grow6 _ at6
           obtain ⟨sa6, sc6, rfl⟩ := own_form own6
           have O6 := Lib.hid own6; have R6 := Lib.hid grow6; clear own6 grow6 at6))
      go_roundw
      case rel =>
        refine ⟨k + 1, _, by omega, rfl, by go_num, ?_, ?_⟩
        · rw [NX.out]; exact O6.out
        · exact (Kept.grown (F := fun _ => False) ((Kept.below BEL.out).trans K5.out (fun _ _ h => h)) R6.out (fun j hj => .inr (OWN.out.lt j hj).1)).toBelow
      case measure => simp [intOf]; omega
    · have hkn : k = nb := by omega
      subst hkn
      obtain ⟨hown, hbel⟩ := hI
      obtain ⟨g, cap, cur, rfl, _⟩ : ∃ g cap cur, v = .slice (some ⟨g, 0, none⟩) (64 * k) cap ∧ cur = cur := by
        rcases hown.2 with ⟨_, h0⟩ | ⟨g, cap, cur, h, _⟩
        · omega
        · exact ⟨g, cap, cur, h, rfl⟩
      obtain ⟨c1, c2, c3, c4⟩ := own_cells hown
      have hsc : size ≤ cap := by omega
      have C4 := Lib.hid c4
      have BEL := Lib.hid hbel
      clear c4 hown hbel
      go_wp2_with fail
      go_ret2
      refine ⟨g, cap, rfl, BEL.out, c2, c3, hsc, fun i hi => ?_⟩
      rw [C4.out i (by simp [len_from]; omega)]
      simp [DS.from_]
end Go.Proofs.Ytfodboooopkheaa
