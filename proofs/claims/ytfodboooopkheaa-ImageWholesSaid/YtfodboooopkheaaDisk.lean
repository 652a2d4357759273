/- The disk: how one lies in memory, and what each of its calls does to it. -/
import Derived.Test.YtfodboooopkheaaLaws
namespace Go.Proofs.Ytfodboooopkheaa
open Go.RowKit

/-- where a disk lies -/
structure DP where
  bd : Nat
  bl : Nat
  bm : Nat
  ord : Value
/-- what it holds -/
structure DS where
  n : Nat
  dur : List Int
  fresh : List (Int × List Int)
  down : Bool
def DS.ents (s : DS) : List (Int × Value) := s.fresh.map fun q => (q.1, .agg (U8 q.2))
theorem get_ents (s : DS) (n : Int) : getI s.ents n = (getI s.fresh n).map fun l => .agg (U8 l) := getI_map (fun l => Value.agg (U8 l)) s.fresh n
theorem put_ents (s : DS) (n : Int) (l : List Int) : putI s.ents n (.agg (U8 l)) = (putI s.fresh n l).map fun q => (q.1, .agg (U8 q.2)) := putI_map (fun l => Value.agg (U8 l)) s.fresh n l
def DP.has (p : DP) (k : Nat) : Prop := k = p.bd ∨ k = p.bl ∨ k = p.bm ∨ p.ord.ownBlock = some k
def diskHead (p : DP) (s : DS) : Array Value := #[.slice (some ⟨p.bl, 0, none⟩) (64 * s.n) (64 * s.n), .map (some p.bm), p.ord, .bool s.down]
structure Disk (w : World) (p : DP) (s : DS) : Prop where
  head : Blk w p.bd 78 (diskHead p s)
  lasts : Blk w p.bl 5 (U8 s.dur)
  len : s.dur.length = 64 * s.n
  byt : Byt s.dur
  map : MapI w p.bm s.ents
  ord : w.ownsRow 0 3 1 p.ord s.fresh.length (s.fresh.map fun q => .int .i64 q.1)
  keys : ∀ q ∈ s.fresh, 0 ≤ q.1 ∧ q.1 < (s.n : Int) ∧ q.2.length = 64 ∧ Byt q.2
  nd : (s.fresh.map (·.1)).Nodup
  nmax : s.n ≤ 4096

section
variable {w w' : World} {p : DP} {s : DS}
theorem Disk.lt (h : Disk w p s) : ∀ k, p.has k → k < w.heap.size := by
  rintro k (rfl | rfl | rfl | hk)
  · exact h.head.lt
  · exact h.lasts.lt
  · exact h.map.lt
  · exact (h.ord.lt k hk).2
theorem Disk.kept {F : Nat → Prop} (h : Disk w p s) (hk : Kept w w' F) (hF : ∀ k, p.has k → ¬ F k) : Disk w' p s :=
  ⟨hk.blk h.head (hF _ (.inl rfl)), hk.blk h.lasts (hF _ (.inr (.inl rfl))), h.len, h.byt, h.map.kept hk (hF _ (.inr (.inr (.inl rfl)))), own_kept h.ord hk (fun k e => hF k (.inr (.inr (.inr e)))), h.keys, h.nd, h.nmax⟩
theorem Disk.drew (h : Disk w p s) : Disk w.drew p s := ⟨h.head, h.lasts, h.len, h.byt, h.map, h.ord, h.keys, h.nd, h.nmax⟩
theorem Disk.drewN (h : Disk w p s) (k : Nat) : Disk (w.drewN k) p s := ⟨h.head, h.lasts, h.len, h.byt, h.map, h.ord, h.keys, h.nd, h.nmax⟩
theorem Disk.below (h : Disk w p s) (hb : Below w.heap.size w w') : Disk w' p s := h.kept (F := fun _ => False) (Kept.below hb) (fun _ _ x => x)
theorem Disk.not_has {g : Nat} {t : TypeId} {cs : Array Value} (h : Disk w p s) (hg : Blk w g t cs) (h1 : t ≠ 78) (h2 : t ≠ 5) (h3 : t ≠ 3) : ¬ p.has g := by
  rintro (rfl | rfl | rfl | hk)
  · exact Blk.ne_ hg h.head h1 rfl
  · exact Blk.ne_ hg h.lasts h2 rfl
  · exact h.map.ne_blk hg rfl
  · exact own_blk_ne h.ord hg (Ne.symm h3) hk
end
/-- a call on a disk: it is as told behind, and nothing else that lay there has turned -/
structure Step (w : World) (p : DP) (w' : World) (p' : DP) (s' : DS) : Prop where
  disk : Disk w' p' s'
  bd : p'.bd = p.bd
  kept : Kept w w' p.has
  foot : ∀ k, p'.has k → p.has k ∨ w.heap.size ≤ k
theorem Step.trans {w w' w'' : World} {p p' p'' : DP} {s' s'' : DS} (h : Step w p w' p' s') (h' : Step w' p' w'' p'' s'') : Step w p w'' p'' s'' :=
  ⟨h'.disk, h'.bd.trans h.bd, h.kept.trans h'.kept (fun k hk hp => (h.foot k hp).resolve_right (by omega)), fun k hk => (h'.foot k hk).elim (h.foot k) (fun hge => .inr (by have := h.kept.size; omega))⟩
theorem Step.of_below {w w' : World} {p : DP} {s : DS} (h : Disk w p s) (hb : Below w.heap.size w w') : Step w p w' p s := ⟨h.below hb, rfl, Kept.below hb, fun _ hk => .inl hk⟩

theorem zero38 : (Try.prog.info? 38).map (·.zero) = some (some (.agg (U8 (List.replicate 64 0)))) := by kernel_rfl
theorem run_zero38 (w : World) : (zeroValue 38).run Try.prog w = .ok (.agg (U8 (List.replicate 64 0))) w := by kernel_rfl

theorem madeCells_zero (m : Nat) : madeCells #[.int .u8 0] m = U8 (List.replicate m 0) := by
  unfold madeCells U8
  apply Array.ext
  · simp
  · intro i h1 h2
    simp at h1 h2 ⊢
    simp [Nat.mod_one]
theorem info5 : (Try.prog.info? 5).map (fun i => (i.zero, i.size, i.bytes)) = some (some (.int .u8 0), 1, 1) := by kernel_rfl
theorem run_make5 (n : Nat) (h : n ≤ 281474976710656) (w : World) : (Instr.makeSlice 22 (.int .i64 (n : Int)) (.int .i64 (n : Int))).run Try.prog w = .ok (.slice (some ⟨w.heap.size, 0, none⟩) n n) (w.alloc (.cells (U8 (List.replicate n 0)) 5)) := by
  obtain ⟨i0, hi, hz0, hz1, hz2⟩ := info_parts info5
  have hb : (i0.bytes : Int) * (n : Int) ≤ 281474976710656 := by rw [hz2]; omega
  have hr := run_make (P := Try.prog) w 22 5 i0 (.int .u8 0) Try.underlying22 hi hz0 .i64 .i64 n n (by omega) (by omega) hb (by omega)
  simp only [Int.toNat_natCast, hz1, Nat.mul_one] at hr
  have hc : (Value.int .u8 0).cells = #[Value.int .u8 0] := rfl
  rw [hc, madeCells_zero] at hr
  exact hr
set_option maxRecDepth 100000 in
set_option maxHeartbeats 400000 in
theorem new_any (n : Nat) (w : World) (h1 : n ≤ 4096) :
    Calls Try.prog 9 #[.int .i64 n] w fun e w' => ∃ p, e = .returned (.tuple #[.pointer (some ⟨p.bd, 0, none⟩), .int .i64 0]) ∧ Disk w' p ⟨n, List.replicate (64 * n) 0, [], false⟩ ∧ Below w.heap.size w w' ∧ ∀ k, p.has k → w.heap.size ≤ k := by
  have h2 : ¬ ((n : Int) < 0) := by omega
  have h3 : ¬ ((n : Int) > 4096) := by omega
  have hmm := @run_makeMap Try.prog
  have hmk : ∀ w, (Instr.makeSlice 22 (.int .i64 ((n : Int) * 64)) (.int .i64 ((n : Int) * 64))).run Try.prog w = .ok (.slice (some ⟨w.heap.size, 0, none⟩) (64 * n) (64 * n)) (w.alloc (.cells (U8 (List.replicate (64 * n) 0)) 5)) := by
    intro w
    have e : ((n : Int) * 64) = ((64 * n : Nat) : Int) := by omega
    rw [e]
    exact run_make5 (64 * n) (by omega) w
  go_enter Try.func9, Try.ntmps9
  go_wp2
  go_ret2
  refine ⟨⟨w.heap.size + 2, w.heap.size, w.heap.size + 1, .slice none 0 0⟩, rfl, ⟨?_, ?_, ?_, ?_, ?_, ?_, ?_, ?_, h1⟩, ?_, ?_⟩
  · have := Blk.new ((w.alloc (Obj.cells (U8 (List.replicate (64 * n) 0)) 5)).alloc (Obj.map #[] 0)) 78 (diskHead ⟨w.heap.size + 2, w.heap.size, w.heap.size + 1, .slice none 0 0⟩ ⟨n, List.replicate (64 * n) 0, [], false⟩)
    simp only [World.size_alloc] at this
    exact this
  · exact ((Blk.new w 5 _).alloc _).alloc _
  · simp
  · exact Byt.replicate _
  · refine ⟨#[], 0, ?_, rfl⟩
    have h := heap_alloc_new (w.alloc (Obj.cells (U8 (List.replicate (64 * n) 0)) 5)) (.map #[] 0)
    have h2 := (Below.heap_alloc _ (Obj.cells (diskHead ⟨w.heap.size + 2, w.heap.size, w.heap.size + 1, .slice none 0 0⟩ ⟨n, List.replicate (64 * n) 0, [], false⟩) 78) _ (lt_of_heap h)).trans h
    simp only [World.size_alloc] at h2
    exact h2
  · exact World.ownsRow_nil _ _ _ _
  · intro q hq; cases hq
  · exact List.nodup_nil
  · exact ((((Below.refl _ _).alloc (Nat.le_refl _) _).alloc (by simp) _).alloc (by simp; omega) _)
  · rintro k (rfl | rfl | rfl | hk)
    · show _ ≤ w.heap.size + 2; omega
    · exact Nat.le_refl _
    · show _ ≤ w.heap.size + 1; omega
    · cases hk

/-! ### What only looks -/
section
variable {w : World} {p : DP} {s : DS}
theorem Disk.cells (h : Disk w p s) : w.cell? ⟨p.bd, 0, none⟩ = some (.slice (some ⟨p.bl, 0, none⟩) (64 * s.n) (64 * s.n)) ∧ w.cell? ⟨p.bd, 1, none⟩ = some (.map (some p.bm)) ∧
    w.cell? ⟨p.bd, 2, none⟩ = some p.ord ∧ w.cell? ⟨p.bd, 3, none⟩ = some (.bool s.down) := by
  refine ⟨?_, ?_, ?_, ?_⟩ <;> (rw [h.head.cell]; rfl)
end
set_option maxRecDepth 100000 in
set_option maxHeartbeats 400000 in
theorem dblocks_any (p : DP) (s : DS) (w : World) (h : Disk w p s) :
    Calls Try.prog 76 #[.pointer (some ⟨p.bd, 0, none⟩)] w fun e w' => e = .returned (.int .i64 s.n) ∧ w = w' := by
  obtain ⟨c0, c1, c2, c3⟩ := h.cells
  have hn := h.nmax
  clear c1 c2 c3 h
  go_enter Try.func76, Try.ntmps76
  go_wp2
  go_ret
  exact ⟨rfl, rfl⟩
set_option maxRecDepth 100000 in
set_option maxHeartbeats 400000 in
theorem is_ok (p : DP) (s : DS) (n : Int) (w : World) (h : Disk w p s) (hd : s.down = false) (h0 : 0 ≤ n) (h1 : n < (s.n : Int)) :
    Calls Try.prog 52 #[.pointer (some ⟨p.bd, 0, none⟩), .int .i64 n] w fun e w' => e = .returned (.int .i64 0) ∧ w = w' := by
  obtain ⟨c0, c1, c2, c3⟩ := h.cells
  rw [hd] at c3
  have hb := dblocks_any p s w h
  have H := Lib.hid hb
  have hN := h.nmax
  clear hb c0 c1 c2 h hd
  go_enter Try.func52, Try.ntmps52
  go_wp2_with (go_at_call 76; refine H.out.mono ?_; rintro e w' ⟨rfl, rfl⟩)
  go_ret
  exact ⟨rfl, rfl⟩
set_option maxRecDepth 100000 in
set_option maxHeartbeats 400000 in
theorem place_any (p : DP) (s : DS) (n : Int) (w : World) (h : Disk w p s) (h0 : 0 ≤ n) (h1 : n < (s.n : Int)) :
    Calls Try.prog 53 #[.pointer (some ⟨p.bd, 0, none⟩), .int .i64 n] w fun e w' => e = .returned (.slice (some ⟨p.bl, 64 * n.toNat, none⟩) 64 64) ∧ w = w' := by
  obtain ⟨c0, c1, c2, c3⟩ := h.cells
  have hN := h.nmax
  clear c1 c2 c3 h
  obtain ⟨k, rfl⟩ := Int.eq_ofNat_of_zero_le h0
  go_enter Try.func53, Try.ntmps53
  go_wp2
  go_ret
  refine ⟨?_, rfl⟩
  show Ending.returned (Value.slice (some ⟨p.bl, k * 64, none⟩) (k * 64 + 64 - k * 64) (k * 64 + 64 - k * 64)) = _
  rw [show k * 64 + 64 - k * 64 = 64 from by omega, show k * 64 = 64 * ((k : Int)).toNat from by simp; omega]

/-- what block n reads as -/
def DS.blk (s : DS) (n : Int) : List Int := (getI s.fresh n).getD ((s.dur.drop (64 * n.toNat)).take 64)

def Z64 : List Int := List.replicate 64 0
theorem len_Z64 : Z64.length = 64 := by simp [Z64]
theorem Byt.z64 : Byt Z64 := Byt.replicate 64
theorem size38 : (Try.prog.info? 38).map (·.size) = some 64 := by kernel_rfl
theorem Disk.only {w w' : World} {p : DP} {s : DS} {g : Nat} (h : Disk w p s) (ho : Only w w' g) (hg : ¬ p.has g) : Disk w' p s :=
  h.kept (F := fun k => k = g) (Only.kept (Kept.refl _ _) ho (.inl rfl)) (fun k hk e => hg (by subst e; exact hk))
set_option maxRecDepth 100000 in
set_option maxHeartbeats 400000 in
theorem read_some (p : DP) (s : DS) (n : Int) (l : List Int) (w : World) (h : Disk w p s) (hd : s.down = false) (h0 : 0 ≤ n) (h1 : n < (s.n : Int)) (hl : l.length = 64) (hg : getI s.fresh n = some l) :
    Calls Try.prog 15 #[.pointer (some ⟨p.bd, 0, none⟩), .int .i64 n] w fun e w' => e = .returned (.tuple #[.agg (U8 l), .int .i64 0]) ∧ Below w.heap.size w w' := by
  have H := Lib.hid h
  have hg' : getI s.ents n = some (.agg (U8 l)) := by rw [get_ents, hg]; rfl
  have G := Lib.hid hg'
  have hnh : ¬ p.has w.heap.size := fun hk => by have := h.lt _ hk; omega
  have hsz : (Try.prog.info? 38).map (·.size) = some (U8 l).size := by rw [size_U8, hl]; exact size38
  have HS := Lib.hid hsz
  clear h hg hg' hsz
  go_enter Try.func15, Try.ntmps15
  go_wp2_with (first
    | (refine wpList_new rfl 38 rfl _ run_zero38 _ rfl ?_; intro w1 g0 hs1 hb1; have g1 : Blk w1 w.heap.size 38 (U8 Z64) := g0; clear g0; have H1 := Lib.hid (H.out.below hb1); obtain ⟨d0, d1, d2, d3⟩ := H1.out.cells; clear d0 d2 d3)
    | (go_at_call 52; refine (is_ok p s n _ H1.out hd h0 h1).mono ?_; rintro e w' ⟨rfl, rfl⟩)
    | (refine wpList_lookup_I rfl _ _ 76 _ rfl 3 38 .i64 _ Try.underlying76 Try.underlying3 (run_zero38 _) p.bm _ n rfl rfl H1.out.map ?_; simp only [G.out, Option.getD_some, Option.isSome_some, if_true])
    | (refine wpList_store_blk rfl 38 _ _ rfl w.heap.size 38 _ (U8 l) rfl rfl g1 (by rw [size_U8, size_U8, hl, len_Z64]) HS.out (one_U8 l) ?_; intro w2 g2 ho2)
    | (refine wpList_load_row rfl 38 _ rfl w.heap.size rfl 38 (U8 l) (0, 0) _ g2 Try.underlying38 rfl HS.out ?_)
    | (refine wpList_store_blk rfl 38 _ _ rfl w.heap.size 38 _ (U8 l) rfl rfl g2 rfl HS.out (one_U8 l) ?_; intro w3 g3 ho3))
  refine bodyPost_ret (results_cell_tmp rfl _ _ w.heap.size 38 (U8 l) _ rfl g3 Try.underlying38 rfl HS.out) rfl ⟨rfl, ?_⟩
  exact (Only.kept (Only.kept (F := fun _ => False) (Kept.below hb1) ho2 (.inr (Nat.le_refl _))) ho3 (.inr (Nat.le_refl _))).toBelow
set_option maxRecDepth 100000 in
set_option maxHeartbeats 400000 in
theorem read_none (p : DP) (s : DS) (n : Int) (l : List Int) (w : World) (h : Disk w p s) (hd : s.down = false) (h0 : 0 ≤ n) (h1 : n < (s.n : Int)) (hg : getI s.fresh n = none) (hl : (s.dur.drop (64 * n.toNat)).take 64 = l) :
    Calls Try.prog 15 #[.pointer (some ⟨p.bd, 0, none⟩), .int .i64 n] w fun e w' => e = .returned (.tuple #[.agg (U8 l), .int .i64 0]) ∧ Below w.heap.size w w' := by
  have hl64 : l.length = 64 := by have := h.len; rw [← hl]; simp; omega
  have H := Lib.hid h
  have hg' : getI s.ents n = none := by rw [get_ents, hg]; rfl
  have G := Lib.hid hg'
  have hnh : ¬ p.has w.heap.size := fun hk => by have := h.lt _ hk; omega
  have hsz : (Try.prog.info? 38).map (·.size) = some (U8 l).size := by rw [size_U8, hl64]; exact size38
  have hsz0 : (Try.prog.info? 38).map (·.size) = some (U8 Z64).size := by rw [size_U8, len_Z64]; exact size38
  have HS := Lib.hid hsz
  have HS0 := Lib.hid hsz0
  have HL := Lib.hid hl
  clear h hg hg' hsz hsz0 hl
  go_enter Try.func15, Try.ntmps15
  go_wp2_with (first
    | (refine wpList_new rfl 38 rfl _ run_zero38 _ rfl ?_; intro w1 g0 hs1 hb1; have g1 : Blk w1 w.heap.size 38 (U8 Z64) := g0; clear g0; have H1 := Lib.hid (H.out.below hb1); obtain ⟨d0, d1, d2, d3⟩ := H1.out.cells; clear d0 d2 d3)
    | (go_at_call 52; refine (is_ok p s n _ H1.out hd h0 h1).mono ?_; rintro e w' ⟨rfl, rfl⟩)
    | (refine wpList_lookup_I rfl _ _ 76 _ rfl 3 38 .i64 (.agg (U8 Z64)) Try.underlying76 Try.underlying3 (run_zero38 _) p.bm _ n rfl rfl H1.out.map ?_; simp only [G.out, Option.getD_none, Option.isSome_none, if_true])
    | (refine wpList_store_blk rfl 38 _ _ rfl w.heap.size 38 _ (U8 Z64) rfl rfl g1 rfl HS0.out (one_U8 _) ?_; intro w2 g2 ho2))
  have H2 := Lib.hid (H1.out.only ho2 hnh).drew
  have hlt : 64 * n.toNat + 64 ≤ s.dur.length := by have := H2.out.len; omega
  have hsrc : ∀ j, (hj : j < l.length) → w2.drew.cell? ((⟨p.bl, 64 * n.toNat, none⟩ : Addr).add j) = some (.int .u8 l[j]) := by
    have e := HL.out
    subst e
    exact H2.out.lasts.src (64 * n.toNat) 64 hlt
  have S := Lib.hid hsrc
  clear hsrc
  go_region_law (first
    | ((refine step_copy_U8 rfl (.tmp 25) (.tmp 28) 22 22 rfl 5 Try.underlying22 (by kernel_rfl) w.heap.size 0 64 64 ⟨p.bl, 64 * n.toNat, none⟩ 64 64 (by rfl) (by rfl) 38 Z64 l g2.drew (by rw [hl64]; rfl) S.out (by rw [len_Z64, hl64]; exact Nat.le_refl _) ?_; intro w3 g3 ho3))
    | ((go_simp; go_at_call 53; refine (place_any p s n _ H2.out h0 h1).mono ?_; rintro e w' ⟨rfl, rfl⟩)))
  rw [over_all Z64 l (by rw [hl64, len_Z64])] at g3
  go_wp2_with (first
    | (refine wpList_load_row rfl 38 _ rfl w.heap.size rfl 38 (U8 l) (0, 0) _ g3 Try.underlying38 rfl HS.out ?_)
    | (refine wpList_store_blk rfl 38 _ _ rfl w.heap.size 38 _ (U8 l) rfl rfl g3 rfl HS.out (one_U8 l) ?_; intro w4 g4 ho4))
  refine bodyPost_ret (results_cell_tmp rfl _ _ w.heap.size 38 (U8 l) _ rfl g4 Try.underlying38 rfl HS.out) rfl ⟨rfl, ?_⟩
  exact (Only.kept (Only.kept (Only.kept (F := fun _ => False) (Kept.below hb1) ho2 (.inr (Nat.le_refl _))).drew ho3 (.inr (Nat.le_refl _))) ho4 (.inr (Nat.le_refl _))).toBelow
theorem read_ok (p : DP) (s : DS) (n : Int) (w : World) (h : Disk w p s) (hd : s.down = false) (h0 : 0 ≤ n) (h1 : n < (s.n : Int)) :
    Calls Try.prog 15 #[.pointer (some ⟨p.bd, 0, none⟩), .int .i64 n] w fun e w' => e = .returned (.tuple #[.agg (U8 (s.blk n)), .int .i64 0]) ∧ Below w.heap.size w w' := by
  cases hg : getI s.fresh n with
  | none =>
    have := read_none p s n _ w h hd h0 h1 hg rfl
    simpa [DS.blk, hg] using this
  | some l =>
    have hm : (n, l) ∈ s.fresh := by
      revert hg
      generalize s.fresh = f
      induction f with
      | nil => intro h; cases h
      | cons q r ih =>
        intro h
        simp only [getI] at h
        split at h
        · rename_i e; injection h with h; subst e; subst h; exact .head _
        · exact .tail _ (ih h)
    have := read_some p s n l w h hd h0 h1 (h.keys _ hm).2.2.1 hg
    simpa [DS.blk, hg] using this

/-! ### Writing a block -/
def DS.put (s : DS) (n : Int) (l : List Int) : DS := { s with fresh := putI s.fresh n l }
theorem mem_putI {α : Type} {f : List (Int × α)} {n : Int} {l : α} {q : Int × α} (h : q ∈ putI f n l) : q ∈ f ∨ q = (n, l) := by
  induction f with
  | nil => simp only [putI, List.mem_singleton] at h; exact .inr h
  | cons p r ih =>
    simp only [putI] at h
    split at h
    · rename_i e
      rcases List.mem_cons.1 h with h | h
      · exact .inr (by rw [h, e])
      · exact .inl (.tail _ h)
    · rcases List.mem_cons.1 h with h | h
      · exact .inl (by rw [h]; exact .head _)
      · exact (ih h).imp (.tail _) id
theorem keys_putI {α : Type} (f : List (Int × α)) (n : Int) (l : α) : (putI f n l).map (·.1) = if (getI f n).isSome then f.map (·.1) else f.map (·.1) ++ [n] := by
  induction f with
  | nil => rfl
  | cons p r ih =>
    simp only [putI, getI]
    by_cases h : n = p.1
    · simp [h]
    · simp only [h, if_false, List.map_cons, ih]
      split <;> rfl
theorem not_mem_of_getI {α : Type} {f : List (Int × α)} {n : Int} (h : getI f n = none) : n ∉ f.map (·.1) := by
  induction f with
  | nil => simp
  | cons p r ih =>
    simp only [getI] at h
    split at h
    · cases h
    · rename_i hn
      simp only [List.map_cons, List.mem_cons, not_or]
      exact ⟨hn, ih h⟩
/-- whole numbers below n, no two alike, are at most n -/
theorem len_le_of_nodup : ∀ (n : Nat) (l : List Int), l.Nodup → (∀ x ∈ l, 0 ≤ x ∧ x < (n : Int)) → l.length ≤ n
  | 0, l, _, h => by
    cases l with
    | nil => simp
    | cons x r => have := h x (.head _); omega
  | n + 1, l, hd, h => by
    by_cases hm : (n : Int) ∈ l
    · have h1 := len_le_of_nodup n (l.erase n) (hd.erase _) (fun x hx => by
        have h2 := h x (List.mem_of_mem_erase hx)
        have h3 : x ≠ n := fun e => by subst e; exact (hd.not_mem_erase) hx
        omega)
      rw [List.length_erase_of_mem hm] at h1
      omega
    · have := len_le_of_nodup n l hd (fun x hx => by
        have h2 := h x hx
        have h3 : x ≠ n := fun e => hm (e ▸ hx)
        omega)
      omega
theorem Disk.few {w : World} {p : DP} {s : DS} (h : Disk w p s) : s.fresh.length ≤ 4096 := by
  have := len_le_of_nodup s.n (s.fresh.map (·.1)) h.nd (fun x hx => by
    obtain ⟨q, hq, rfl⟩ := List.mem_map.1 hx
    exact ⟨(h.keys q hq).1, (h.keys q hq).2.1⟩)
  have h2 := h.nmax
  simp at this
  omega
theorem info3 : (Try.prog.info? 3).map (fun i => (i.zero, i.size, i.bytes)) = some (some (.int .i64 0), 1, 8) := by kernel_rfl
set_option maxRecDepth 100000 in
set_option maxHeartbeats 400000 in
theorem write_none (p : DP) (s : DS) (n : Int) (l : List Int) (w : World) (h : Disk w p s) (hd : s.down = false) (h0 : 0 ≤ n) (h1 : n < (s.n : Int)) (hl : l.length = 64) (hb : Byt l) (hg : getI s.fresh n = none) :
    Calls Try.prog 16 #[.pointer (some ⟨p.bd, 0, none⟩), .int .i64 n, .agg (U8 l)] w fun e w' => e = .returned (.int .i64 0) ∧ ∃ p', Step w p w' p' (s.put n l) := by
  have H := Lib.hid h
  have hg' : getI s.ents n = none := by rw [get_ents, hg]; rfl
  have G := Lib.hid hg'
  have G0 := Lib.hid hg
  have hfew := h.few
  have hnh : ∀ k, w.heap.size ≤ k → ¬ p.has k := fun k hk hk' => by have := h.lt _ hk'; omega
  have hsz : (Try.prog.info? 38).map (·.size) = some (U8 l).size := by rw [size_U8, hl]; exact size38
  have hsz0 : (Try.prog.info? 38).map (·.size) = some (U8 Z64).size := by rw [size_U8, len_Z64]; exact size38
  have HS := Lib.hid hsz
  have HS0 := Lib.hid hsz0
  obtain ⟨i0, hi, hz0, hz1, hz2⟩ := info_parts info3
  have hb1 : Below w.heap.size w (w.alloc (.cells (U8 l) 38)) := (Below.refl _ _).alloc (Nat.le_refl _) _
  have H1 := Lib.hid (h.below hb1)
  obtain ⟨d0, d1, d2, d3⟩ := H1.out.cells
  have B1 := Lib.hid hb1
  clear d0 d3 h hg hg' hsz hsz0 hb1
  go_enter Try.func16, Try.ntmps16
  go_wp2_with (first
    | (go_at_call 52; refine (is_ok p s n _ H1.out hd h0 h1).mono ?_; rintro e w' ⟨rfl, rfl⟩)
    | (refine wpList_lookup_I rfl _ _ 76 _ rfl 3 38 .i64 (.agg (U8 Z64)) Try.underlying76 Try.underlying3 (run_zero38 _) p.bm _ n rfl rfl H1.out.map ?_; simp only [G.out, Option.getD_none, Option.isSome_none, if_true])
    | (refine wpList_new rfl 38 rfl _ run_zero38 (w.heap.size + 1) (World.size_alloc _ _) ?_; intro w2 g0 hs2 hb2; have g2 : Blk w2 (w.heap.size + 1) 38 (U8 Z64) := g0; clear g0)
    | (refine wpList_store_blk rfl 38 _ _ rfl (w.heap.size + 1) 38 _ (U8 Z64) rfl rfl g2 rfl HS0.out (one_U8 _) ?_; intro w3 g3 ho3
       have k3 : Kept w w3 fun _ => False := Only.kept (Kept.below (B1.out.trans (hb2.mono (Nat.le_succ _)))) ho3 (.inr (Nat.le_succ _))
       have x3 : Blk w3 w.heap.size 38 (U8 l) := ho3.blk (hb2.block _ (Nat.lt_succ_self _) |>.trans (Blk.new w 38 (U8 l))) (by omega)
       have K3 := Lib.hid k3
       have X3 := Lib.hid x3
       have H3 := Lib.hid (H.out.below k3.toBelow)
       obtain ⟨e0, e1, e2, e3⟩ := H3.out.cells
       clear e0 e1 e3 d1 d2 k3 x3)
    | (at_builtin; refine wpList_append_own_at _ rfl _ _ 57 rfl 0 3 i0 (.int .i64 0) 1 8 Try.underlying57 hi hz0 hz1 hz2 rfl (by decide) p.ord s.fresh.length _ rfl (H3.out.ord.alloc _) ⟨w3.heap.size, 0, none⟩ 1 1 [.int .i64 n] rfl rfl (cell_one_new _ _ _) (by simp [Value.oneCell']) (by unfold maxLen; omega) (by omega) (Nat.zero_le _) ?_
       intro v' w4 own4 grow4 _ at4
       obtain ⟨sa, sn, sc, rfl⟩ := own_slice own4
       have hd4 : Blk w4 p.bd 78 (diskHead p s) := (grow4.block _ (by have := H3.out.head.lt; simp; omega) (fun e => own_blk_ne H3.out.ord H3.out.head (by decide) e.symm)).trans (H3.out.head.alloc _)
       have O4 := Lib.hid own4
       have G4 := Lib.hid grow4
       have A4 := Lib.hid at4
       have D4 := Lib.hid hd4
       clear own4 grow4 at4 hd4 e2)
    | (refine wpList_store_cell rfl 57 _ _ rfl p.bd 2 78 (diskHead p s) (.slice sa sn sc) rfl rfl D4.out (by show 2 < 4; decide) (by kernel_rfl) rfl rfl ?_
       intro w5 hd5 ho5))
  simp only [Act.put]
  -- from w3 to w5
  have L3 : Kept w3 (w3.alloc (.cells #[.int .i64 n] 3)) p.has := (Kept.refl _ _).alloc _
  have L4 : Kept w3 w4 p.has := L3.grown G4.out (fun k e => .inl (.inr (.inr (.inr e))))
  have L5 : Kept w3 w5 p.has := Only.kept L4 ho5 (.inl (.inl rfl))
  have hx5 : Blk w5 w.heap.size 38 (U8 l) := L5.blk X3.out (hnh _ (Nat.le_refl _))
  have hm4 : MapI w4 p.bm s.ents := by
    obtain ⟨ents, clk, hh, he⟩ := H3.out.map
    exact ⟨ents, clk, (G4.out.block _ (by have := lt_of_heap hh; simp; omega) (fun e => H3.out.map.ne_own H3.out.ord e.symm)).trans ((Below.heap_alloc _ _ _ (lt_of_heap hh)).trans hh), he⟩
  have hm5 : MapI w5 p.bm s.ents := hm4.only ho5 (H3.out.map.ne_blk H3.out.head)
  obtain ⟨X, hX⟩ : ∃ X : List Value, X = l.map (Value.int .u8) := ⟨_, rfl⟩
  have hXa : X.toArray = U8 l := by rw [hX]; rfl
  have hXl : X.length = 64 := by rw [hX]; simpa using hl
  have hX1 : ∀ v ∈ X, v.oneCell' = true := by rw [hX]; exact one_map l
  have hXi : (Try.prog.info? 38).map (·.size) = some X.length := by rw [hXl]; exact size38
  obtain ⟨w6, hr, hm6, ho6⟩ := run_update_I (P := Try.prog) Try.underlying76 Try.underlying3 hm5.drew n (.agg X.toArray)
  have c1 : w5.drew.cell? ⟨p.bd, 1, none⟩ = some (.map (some p.bm)) := by rw [hd5.drew.cell]; rfl
  have hR : w5.drew.rangeAt w.heap.size 0 X := fun j v hj => by
    rw [hx5.drew.cell, Nat.zero_add, ← hXa]
    simpa using hj
  have hu38 := Try.underlying38
  rw [hXa] at hm6
  have hd6 : Blk w6 p.bd 78 ((diskHead p s).setIfInBounds 2 (.slice sa sn sc)) := ho6.blk hd5.drew (Ne.symm (H3.out.map.ne_blk H3.out.head))
  have c6 : w6.cell? ⟨p.bd, 1, none⟩ = some (.map (some p.bm)) := by rw [hd6.cell]; rfl
  have hR6 : w6.rangeAt w.heap.size 0 X := fun j v hj => by
    rw [(ho6.blk hx5.drew (fun e => hnh _ (Nat.le_refl _) (.inr (.inr (.inl e))))).cell, Nat.zero_add, ← hXa]
    simpa using hj
  have L3' := Lib.hid L5
  have M6 := Lib.hid hm6
  have XA := Lib.hid hXa
  clear L3 L4 L5 hx5 hm4 hm5 hm6 hX hXa
  have HD6 := Lib.hid hd6
  clear hd6
  go_region_held3 (fun w' => w'.cell? ⟨p.bd, 1, none⟩ = some (.map (some p.bm)) ∧ w'.rangeAt w.heap.size 0 X) (first | exact ⟨c1, hR⟩ | exact ⟨c6, hR6⟩) (fail)
  go_wp2
  go_ret
  have hlen : (putI s.fresh n l).map (·.1) = s.fresh.map (·.1) ++ [n] := by rw [keys_putI, G0.out]; rfl
  have hlen2 : (putI s.fresh n l).length = s.fresh.length + 1 := by have := congrArg List.length hlen; simpa using this
  have hxs : (putI s.fresh n l).map (fun q => Value.int .i64 q.1) = s.fresh.map (fun q => Value.int .i64 q.1) ++ [Value.int .i64 n] := by
    have := congrArg (List.map (Value.int .i64)) hlen
    simpa [List.map_map, Function.comp_def] using this
  have ne1 := own_blk_ne O4.out D4.out (by decide)
  have hm4 : MapI w4 p.bm s.ents := by
    obtain ⟨ents, clk, hh, he⟩ := H3.out.map
    exact ⟨ents, clk, (G4.out.block _ (by have := lt_of_heap hh; simp; omega) (fun e => H3.out.map.ne_own H3.out.ord e.symm)).trans ((Below.heap_alloc _ _ _ (lt_of_heap hh)).trans hh), he⟩
  have ne2 := hm4.ne_own O4.out
  have l4 : Blk w4 p.bl 5 (U8 s.dur) := (G4.out.block _ (by have := H3.out.lasts.lt; simp; omega) (fun e => own_blk_ne H3.out.ord H3.out.lasts (by decide) e.symm)).trans (H3.out.lasts.alloc _)
  have l6 : Blk w6 p.bl 5 (U8 s.dur) := ho6.blk (ho5.blk l4 (Blk.ne_ l4 D4.out (by decide))).drew (Ne.symm (H3.out.map.ne_blk H3.out.lasts))
  have K5 := L3'.out
  refine ⟨rfl, { p with ord := .slice sa sn sc }, ⟨?_, l6, H.out.len, H.out.byt, ?_, ?_, ?_, ?_, H.out.nmax⟩, rfl, ?_, ?_⟩
  · exact HD6.out
  · have := M6.out
    rw [put_ents] at this
    exact this
  · have o5 : w5.ownsRow 0 3 1 (Value.slice sa sn sc) _ _ := own_kept (F := fun k => k = p.bd) O4.out (Only.kept (Kept.refl _ _) ho5 (.inl rfl)) (fun k hk e => ne1 (by rw [hk, e]))
    have o6 : w6.ownsRow 0 3 1 (Value.slice sa sn sc) _ _ := own_kept (F := fun k => k = p.bm) o5 (Only.kept (Kept.refl _ _).drew ho6 (.inl rfl)) (fun k hk e => ne2 (by rw [hk, e]))
    show w6.ownsRow 0 3 1 (Value.slice sa sn sc) (putI s.fresh n l).length ((putI s.fresh n l).map fun q => .int .i64 q.1)
    rw [hlen2, hxs]
    exact o6
  · intro q hq
    rcases mem_putI hq with h | rfl
    · exact H.out.keys q h
    · exact ⟨h0, h1, hl, hb⟩
  · show ((putI s.fresh n l).map (·.1)).Nodup
    rw [hlen]
    refine List.nodup_append.2 ⟨H.out.nd, by simp, ?_⟩
    intro x hx y hy
    simp only [List.mem_singleton] at hy
    subst hy
    rintro rfl
    exact not_mem_of_getI G0.out hx
  · exact Only.kept (((K3.out.mono (fun _ _ x => x.elim)).trans K5 (F := p.has) (by intro k _ h; exact h)).drew) ho6 (.inl (.inr (.inr (.inl rfl))))
  · rintro k (rfl | rfl | rfl | hk)
    · exact .inl (.inl rfl)
    · exact .inl (.inr (.inl rfl))
    · exact .inl (.inr (.inr (.inl rfl)))
    · rcases A4.out with h | h
      · exact .inl (.inr (.inr (.inr (h ▸ hk))))
      · rw [h] at hk
        injection hk with hk
        have := K3.out.size
        simp at hk
        exact .inr (by omega)
set_option maxRecDepth 100000 in
set_option maxHeartbeats 400000 in
theorem write_some (p : DP) (s : DS) (n : Int) (l l0 : List Int) (w : World) (h : Disk w p s) (hd : s.down = false) (h0 : 0 ≤ n) (h1 : n < (s.n : Int)) (hl : l.length = 64) (hb : Byt l) (hg : getI s.fresh n = some l0) (hl0 : l0.length = 64) :
    Calls Try.prog 16 #[.pointer (some ⟨p.bd, 0, none⟩), .int .i64 n, .agg (U8 l)] w fun e w' => e = .returned (.int .i64 0) ∧ ∃ p', Step w p w' p' (s.put n l) := by
  have H := Lib.hid h
  have hg' : getI s.ents n = some (.agg (U8 l0)) := by rw [get_ents, hg]; rfl
  have G := Lib.hid hg'
  have G0 := Lib.hid hg
  have hnh : ∀ k, w.heap.size ≤ k → ¬ p.has k := fun k hk hk' => by have := h.lt _ hk'; omega
  have hsz0 : (Try.prog.info? 38).map (·.size) = some (U8 l0).size := by rw [size_U8, hl0]; exact size38
  have hsz : (Try.prog.info? 38).map (·.size) = some (U8 l).size := by rw [size_U8, hl]; exact size38
  have HS0 := Lib.hid hsz0
  have HS := Lib.hid hsz
  have hb1 : Below w.heap.size w (w.alloc (.cells (U8 l) 38)) := (Below.refl _ _).alloc (Nat.le_refl _) _
  have H1 := Lib.hid (h.below hb1)
  obtain ⟨d0, d1, d2, d3⟩ := H1.out.cells
  have B1 := Lib.hid hb1
  clear d0 d2 d3 h hg hg' hsz hsz0 hb1
  go_enter Try.func16, Try.ntmps16
  go_wp2_with (first
    | (go_at_call 52; refine (is_ok p s n _ H1.out hd h0 h1).mono ?_; rintro e w' ⟨rfl, rfl⟩)
    | (refine wpList_lookup_I rfl _ _ 76 _ rfl 3 38 .i64 (.agg (U8 Z64)) Try.underlying76 Try.underlying3 (run_zero38 _) p.bm _ n rfl rfl H1.out.map ?_; simp only [G.out, Option.getD_some, Option.isSome_some, if_true])
    | (refine wpList_new rfl 38 rfl _ run_zero38 (w.heap.size + 1) (World.size_alloc _ _) ?_; intro w2 g0 hs2 hb2; have g2 : Blk w2 (w.heap.size + 1) 38 (U8 Z64) := g0; clear g0)
    | (refine wpList_store_blk rfl 38 _ _ rfl (w.heap.size + 1) 38 _ (U8 l0) rfl rfl g2 (by rw [size_U8, size_U8, hl0, len_Z64]) HS0.out (one_U8 _) ?_; intro w3 g3 ho3
       have k3 : Kept w w3 fun _ => False := Only.kept (Kept.below (B1.out.trans (hb2.mono (Nat.le_succ _)))) ho3 (.inr (Nat.le_succ _))
       have x3 : Blk w3 w.heap.size 38 (U8 l) := ho3.blk (hb2.block _ (Nat.lt_succ_self _) |>.trans (Blk.new w 38 (U8 l))) (by omega)
       have K3 := Lib.hid k3
       have X3 := Lib.hid x3
       have H3 := Lib.hid (H.out.below k3.toBelow)
       obtain ⟨e0, e1, e2, e3⟩ := H3.out.cells
       clear e0 e2 e3 d1 k3 x3))
  have hm5 := H3.out.map
  have hx5 := X3.out
  obtain ⟨X, hX⟩ : ∃ X : List Value, X = l.map (Value.int .u8) := ⟨_, rfl⟩
  have hXa : X.toArray = U8 l := by rw [hX]; rfl
  have hXl : X.length = 64 := by rw [hX]; simpa using hl
  have hX1 : ∀ v ∈ X, v.oneCell' = true := by rw [hX]; exact one_map l
  have hXi : (Try.prog.info? 38).map (·.size) = some X.length := by rw [hXl]; exact size38
  obtain ⟨w6, hr, hm6, ho6⟩ := run_update_I (P := Try.prog) Try.underlying76 Try.underlying3 hm5.drew n (.agg X.toArray)
  have c1 : w3.drew.cell? ⟨p.bd, 1, none⟩ = some (.map (some p.bm)) := by rw [H3.out.head.drew.cell]; rfl
  have hR : w3.drew.rangeAt w.heap.size 0 X := fun j v hj => by
    rw [hx5.drew.cell, Nat.zero_add, ← hXa]
    simpa using hj
  have hu38 := Try.underlying38
  rw [hXa] at hm6
  have hd6 : Blk w6 p.bd 78 (diskHead p s) := ho6.blk H3.out.head.drew (Ne.symm (H3.out.map.ne_blk H3.out.head))
  have c6 : w6.cell? ⟨p.bd, 1, none⟩ = some (.map (some p.bm)) := by rw [hd6.cell]; rfl
  have hR6 : w6.rangeAt w.heap.size 0 X := fun j v hj => by
    rw [(ho6.blk hx5.drew (fun e => hnh _ (Nat.le_refl _) (.inr (.inr (.inl e))))).cell, Nat.zero_add, ← hXa]
    simpa using hj
  have M6 := Lib.hid hm6
  have HD6 := Lib.hid hd6
  clear hx5 hm5 hm6 hX hXa hd6 e1
  go_region_held3 (fun w' => w'.cell? ⟨p.bd, 1, none⟩ = some (.map (some p.bm)) ∧ w'.rangeAt w.heap.size 0 X) (first | exact ⟨c1, hR⟩ | exact ⟨c6, hR6⟩) (fail)
  go_wp2
  go_ret
  have hlen : (putI s.fresh n l).map (·.1) = s.fresh.map (·.1) := by rw [keys_putI, G0.out]; rfl
  have hlen2 : (putI s.fresh n l).length = s.fresh.length := by have := congrArg List.length hlen; simpa using this
  have hxs : (putI s.fresh n l).map (fun q => Value.int .i64 q.1) = s.fresh.map (fun q => Value.int .i64 q.1) := by
    have := congrArg (List.map (Value.int .i64)) hlen
    simpa [List.map_map, Function.comp_def] using this
  have l6 : Blk w6 p.bl 5 (U8 s.dur) := ho6.blk H3.out.lasts.drew (Ne.symm (H3.out.map.ne_blk H3.out.lasts))
  refine ⟨rfl, p, ⟨?_, l6, H.out.len, H.out.byt, ?_, ?_, ?_, ?_, H.out.nmax⟩, rfl, ?_, fun k hk => .inl hk⟩
  · exact HD6.out
  · have := M6.out
    rw [put_ents] at this
    exact this
  · have o6 : w6.ownsRow 0 3 1 p.ord _ _ := own_kept (F := fun k => k = p.bm) H3.out.ord (Only.kept (Kept.refl _ _).drew ho6 (.inl rfl)) (fun k hk e => H3.out.map.ne_own H3.out.ord (by rw [hk, e]))
    show w6.ownsRow 0 3 1 p.ord (putI s.fresh n l).length ((putI s.fresh n l).map fun q => .int .i64 q.1)
    rw [hlen2, hxs]
    exact o6
  · intro q hq
    rcases mem_putI hq with h | rfl
    · exact H.out.keys q h
    · exact ⟨h0, h1, hl, hb⟩
  · show ((putI s.fresh n l).map (·.1)).Nodup
    rw [hlen]
    exact H.out.nd
  · exact Only.kept ((K3.out.mono (G := p.has) (fun _ _ x => x.elim)).drew) ho6 (.inl (.inr (.inr (.inl rfl))))
theorem mem_of_getI {α : Type} {f : List (Int × α)} {n : Int} {l : α} (hg : getI f n = some l) : (n, l) ∈ f := by
  induction f with
  | nil => cases hg
  | cons q r ih =>
    simp only [getI] at hg
    split at hg
    · rename_i e; injection hg with h; subst e; subst h; exact .head _
    · exact .tail _ (ih hg)
theorem write_ok (p : DP) (s : DS) (n : Int) (l : List Int) (w : World) (h : Disk w p s) (hd : s.down = false) (h0 : 0 ≤ n) (h1 : n < (s.n : Int)) (hl : l.length = 64) (hb : Byt l) :
    Calls Try.prog 16 #[.pointer (some ⟨p.bd, 0, none⟩), .int .i64 n, .agg (U8 l)] w fun e w' => e = .returned (.int .i64 0) ∧ ∃ p', Step w p w' p' (s.put n l) := by
  cases hg : getI s.fresh n with
  | none => exact write_none p s n l w h hd h0 h1 hl hb hg
  | some l0 => exact write_some p s n l l0 w h hd h0 h1 hl hb hg (h.keys _ (mem_of_getI hg)).2.2.1
end Go.Proofs.Ytfodboooopkheaa
