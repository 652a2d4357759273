/- image.Point: tells what to start. -/
import Derived.Test.YtfodboooopkheaaStart
namespace Go.Proofs.Ytfodboooopkheaa
open Go.RowKit

/-- a boot block: what it says, and its count, before and behind -/
def encB (b : BT) (n : Int) : List Int :=
  over (over (over ((over (over Z64 0 (layL n 8)) 56 (layL n 8)).set 8 b.area) 9 (layL b.epoch 8)) 17 (layL b.size 4)) 21 b.whole
theorem startV_form (s : DS) (at_ : Int) : ∃ C : BT, startV s at_ = .tuple #[.agg C.cells, .int .i64 (bestN s at_ 2).2, .int .i64 (if (bestN s at_ 2).2 = 0 then 81 else 0)] ∧ (C.whole.length = 32 ∨ C = (bestN s at_ 2).1) := by
  unfold startV
  by_cases h : (bestN s at_ 2).2 = 0
  · rw [if_pos h, if_pos h, h]; exact ⟨BT.zero, rfl, .inl rfl⟩
  · rw [if_neg h, if_neg h]; exact ⟨_, rfl, .inr rfl⟩
theorem getD_set_len (l : List Int) (i : Nat) (x : Int) : (l.set i x).length = l.length := by simp
theorem src_BT {V : World} {g : Nat} (b : BT) (h : Blk V g 31 b.cells) : ∀ j, (hj : j < b.whole.length) → V.cell? ((⟨g, 3, none⟩ : Addr).add j) = some (.int .u8 b.whole[j]) := by
  intro j hj
  rw [add_at, h.cell]
  simp [BT.cells, Nat.add_comm 3 j, hj]
theorem and_one (a : Int) (_h0 : 0 ≤ a) (_h2 : a ≤ 9223372036854775807) : bits .and .i64 a 1 = a % 2 := by
  have e : bits .and .i64 a 1 = IntKind.i64.wrap ((BitVec.ofInt 64 a &&& BitVec.ofInt 64 1).toNat : Int) := rfl
  rw [e, BitVec.toNat_and, IntKind.wrap_i64]
  have e1 : (BitVec.ofInt 64 1).toNat = 1 := by decide
  rw [e1]
  have hA : ((BitVec.ofInt 64 a).toNat : Int) = a % 18446744073709551616 := by
    rw [BitVec.toNat_ofInt]
    have : (0 : Int) ≤ a % ((2 ^ 64 : Nat) : Int) := Int.emod_nonneg _ (by decide)
    rw [Int.toNat_of_nonneg this]
    rfl
  generalize (BitVec.ofInt 64 a).toNat = A at hA
  rw [Nat.and_one_is_mod]
  omega
theorem set_U8 (L : List Int) (i : Nat) (x : Int) : (U8 L).setIfInBounds i (.int .u8 x) = U8 (L.set i x) := by
  unfold U8
  rw [List.map_set]
  simp
theorem size1_5 : (Try.prog.info? 5).map (·.size) = some 1 := by kernel_rfl
def PointOk (p : DP) (s : DS) (at_ : Int) (b : BT) (w : World) (e : Ending) (w' : World) : Prop :=
  (¬ b.may ∧ e = .returned (.int .i64 1) ∧ Step w p w' p s) ∨
  (b.may ∧ (bestN s at_ 2).2 = 1099511627776 ∧ e = .returned (.int .i64 81) ∧ Step w p w' p s) ∨
  (b.may ∧ (bestN s at_ 2).2 ≠ 1099511627776 ∧ e = .returned (.int .i64 0) ∧ ∃ p', Step w p w' p' (s.put (at_ + 1 - ((bestN s at_ 2).2 + 1) % 2) (encB b ((bestN s at_ 2).2 + 1))).flushed)
set_option maxRecDepth 100000 in
set_option maxHeartbeats 1000000 in
theorem point_any (p : DP) (s : DS) (at_ : Int) (b : BT) (w : World) (h : Disk w p s) (hd : s.down = false) (h0 : 0 ≤ at_) (h1 : at_ + 2 ≤ (s.n : Int)) (hw : b.wf) :
    Calls Try.prog 12 #[.pointer (some ⟨p.bd, 0, none⟩), .int .i64 at_, .agg b.cells] w fun e w' => PointOk p s at_ b w e w' := by
  have D := Lib.hid h
  have HB : Below w.heap.size w (w.alloc (.cells b.cells 31)) := (Below.refl _ _).alloc (Nat.le_refl _) _
  have H := Lib.hid (h.below HB)
  have BB := Lib.hid HB
  obtain ⟨C, hsv, hC⟩ := startV_form s at_
  have hbw := bestN_wf h at_ h0 2 (by omega)
  have hCl : C.whole.length = 32 := hC.elim id fun e => by rw [e]; exact hbw.1.2.2.2.2.2.2.1
  obtain ⟨sn, hsn⟩ : ∃ sn, sn = (bestN s at_ 2).2 := ⟨_, rfl⟩
  obtain ⟨se, hse⟩ : ∃ se : Int, se = if sn = 0 then 81 else 0 := ⟨_, rfl⟩
  rw [← hsn, ← hse] at hsv
  have SV := Lib.hid (show ∀ V, Disk V p s → Calls Try.prog 14 #[.pointer (some ⟨p.bd, 0, none⟩), .int .i64 at_] V fun e w' => e = .returned (.tuple #[.agg C.cells, .int .i64 sn, .int .i64 se]) ∧ Below V.heap.size V w' from fun V hV => by
    have := start_any p s at_ V hV hd h0 h1
    rwa [hsv] at this)
  have hs1 : (se == 1) = false := by simp; rw [hse]; split <;> omega
  have hs2 : ¬ (¬ se = 0 ∧ ¬ se = 81) := by rw [hse]; split <;> omega
  have hn0 : 0 ≤ sn := by rw [hsn]; exact hbw.2.1
  have hn1 : sn ≤ 1099511627776 := by rw [hsn]; exact hbw.2.2
  have SN := Lib.hid hsn
  have SE := Lib.hid hse
  have RC := Lib.hid (show (Try.prog.info? 31).map (·.size) = some C.cells.size by rw [size_BT _ hCl]; exact size31)
  have RC0 := Lib.hid (show C.cells.size = BT.zero.cells.size by rw [size_BT _ hCl]; rfl)
  have RB := Lib.hid (show (Try.prog.info? 31).map (·.size) = some b.cells.size by rw [size_BT _ hw.2.2.2.2.2.2.1]; exact size31)
  have M := Lib.hid (fun V => may_any b V hw)
  obtain ⟨mb, hmb⟩ : ∃ mb, mb = decide b.may := ⟨_, rfl⟩
  have MB := Lib.hid hmb
  rw [← hmb] at M
  have NM := Lib.hid h.nmax
  clear hsn hse hbw hC h hsv hCl hmb
  have LT0 := Lib.hid (show w.heap.size < (w.alloc (.cells b.cells 31)).heap.size by rw [World.size_alloc]; exact Nat.lt_succ_self _)
  have SBm := Lib.hid (show ∀ V, Blk V w.heap.size 31 b.cells → (V.cell? ⟨w.heap.size, 0, none⟩ = some (.int .i64 b.area)) ∧ (V.cell? ⟨w.heap.size, 1, none⟩ = some (.int .i64 b.epoch)) ∧ (V.cell? ⟨w.heap.size, 2, none⟩ = some (.int .i64 b.size)) from fun V hV => ⟨by rw [hV.cell]; rfl, by rw [hV.cell]; rfl, by rw [hV.cell]; rfl⟩)
  cases mb with
  | false =>
    go_enter Try.func12, Try.ntmps12
    clear HB
    go_wp2_with (first
      | (go_at_call 14; refine (SV.out _ H.out).mono ?_; rintro e w1 ⟨rfl, b1⟩; have X1 := Lib.hid (show Blk w1 w.heap.size 31 b.cells from (b1.block w.heap.size LT0.out).trans (Blk.new w 31 b.cells)); have B1 := Lib.hid (BB.out.trans (b1.mono BB.out.size)); clear b1)
      | (refine wpList_new rfl 31 rfl _ run_zero31 w1.heap.size rfl ?_; intro w2 g0 hs2 hb2; have G2 := Lib.hid (show Blk w2 w1.heap.size 31 BT.zero.cells from g0); have B2 := Lib.hid hb2; clear g0 hb2)
      | (refine wpList_store_blk rfl 31 _ _ rfl w1.heap.size 31 _ C.cells rfl rfl G2.out RC0.out RC.out (one_BT _) ?_; intro w3 g3 ho3; have G3 := Lib.hid g3; have O3 := Lib.hid ho3; clear g3 ho3; have X3 := Lib.hid (show Blk w3 w.heap.size 31 b.cells from O3.out.blk ((B2.out.block _ X1.out.lt).trans X1.out) (by have := X1.out.lt; omega)); have B3 := Lib.hid (show Below w.heap.size w w3 from (Only.kept (F := fun _ => False) (Kept.below (B1.out.trans (B2.out.mono B1.out.size))) O3.out (.inr B1.out.size)).toBelow))
      | (refine wpList_load_row_w rfl 31 _ rfl w.heap.size rfl 31 b.cells (0, 0) _ X3.out Try.underlying31 rfl RB.out ?_)
      | (go_at_call 49; refine (M.out w3).mono ?_; rintro e w4 ⟨rfl, b4⟩; have B4 := Lib.hid (B3.out.trans (b4.mono B3.out.size)); clear b4))
    go_ret
    exact .inl ⟨by have := MB.out; simpa using this.symm, rfl, (Step.of_below D.out B4.out)⟩
  | true =>
    by_cases hmx : sn = 1099511627776
    · have hz0 : se = 0 := by rw [SE.out, hmx]; rfl
      subst hz0
      go_enter Try.func12, Try.ntmps12
      clear HB
      go_wp2_with (first
        | (go_at_call 14; refine (SV.out _ H.out).mono ?_; rintro e w1 ⟨rfl, b1⟩; have X1 := Lib.hid (show Blk w1 w.heap.size 31 b.cells from (b1.block w.heap.size LT0.out).trans (Blk.new w 31 b.cells)); have B1 := Lib.hid (BB.out.trans (b1.mono BB.out.size)); clear b1)
        | (refine wpList_new rfl 31 rfl _ run_zero31 w1.heap.size rfl ?_; intro w2 g0 hs2 hb2; have G2 := Lib.hid (show Blk w2 w1.heap.size 31 BT.zero.cells from g0); have B2 := Lib.hid hb2; clear g0 hb2)
        | (refine wpList_store_blk rfl 31 _ _ rfl w1.heap.size 31 _ C.cells rfl rfl G2.out RC0.out RC.out (one_BT _) ?_; intro w3 g3 ho3; have G3 := Lib.hid g3; have O3 := Lib.hid ho3; clear g3 ho3; have X3 := Lib.hid (show Blk w3 w.heap.size 31 b.cells from O3.out.blk ((B2.out.block _ X1.out.lt).trans X1.out) (by have := X1.out.lt; omega)); have B3 := Lib.hid (show Below w.heap.size w w3 from (Only.kept (F := fun _ => False) (Kept.below (B1.out.trans (B2.out.mono B1.out.size))) O3.out (.inr B1.out.size)).toBelow))
        | (refine wpList_load_row_w rfl 31 _ rfl w.heap.size rfl 31 b.cells (0, 0) _ X3.out Try.underlying31 rfl RB.out ?_)
        | (go_at_call 49; refine (M.out w3).mono ?_; rintro e w4 ⟨rfl, b4⟩; have B4 := Lib.hid (B3.out.trans (b4.mono B3.out.size)); clear b4))
      go_ret
      exact .inr (.inl ⟨by have := MB.out; simpa using this.symm, by rw [← SN.out]; exact hmx, rfl, Step.of_below D.out B4.out⟩)
    · have hse2 : se = 0 ∨ se = 81 := by rw [SE.out]; split <;> omega
      have hmay : b.may := by have := MB.out; simpa using this.symm
      have ha : 0 ≤ b.area ∧ b.area ≤ 1 := by have := hmay.1; omega
      have he : 0 ≤ b.epoch ∧ b.epoch ≤ 1099511627776 := ⟨hmay.2.1, hmay.2.2.1⟩
      obtain ⟨L1, h1⟩ : ∃ L, L = over Z64 0 (layL (sn + 1) 8) := ⟨_, rfl⟩
      obtain ⟨L2, h2⟩ : ∃ L, L = over L1 56 (layL (sn + 1) 8) := ⟨_, rfl⟩
      obtain ⟨L3, h3⟩ : ∃ L, L = L2.set 8 b.area := ⟨_, rfl⟩
      obtain ⟨L4, h4⟩ : ∃ L, L = over L3 9 (layL b.epoch 8) := ⟨_, rfl⟩
      obtain ⟨L5, h5⟩ : ∃ L, L = over L4 17 (layL b.size 4) := ⟨_, rfl⟩
      obtain ⟨L6, h6⟩ : ∃ L, L = over L5 21 b.whole := ⟨_, rfl⟩
      have hbl : b.whole.length = 32 := hw.2.2.2.2.2.2.1
      have l1 : L1.length = 64 := by rw [h1, length_over _ _ _ (by simp [len_layL, len_Z64])]; exact len_Z64
      have l2 : L2.length = 64 := by rw [h2, length_over _ _ _ (by rw [len_layL, l1]; omega)]; exact l1
      have l3 : L3.length = 64 := by rw [h3]; simpa using l2
      have l4 : L4.length = 64 := by rw [h4, length_over _ _ _ (by rw [len_layL, l3]; omega)]; exact l3
      have l5 : L5.length = 64 := by rw [h5, length_over _ _ _ (by rw [len_layL, l4]; omega)]; exact l4
      have l6 : L6.length = 64 := by rw [h6, length_over _ _ _ (by rw [hbl, l5]; omega)]; exact l5
      have a3 : Byt L3 := by
        intro x hx
        rw [h3] at hx
        rcases List.mem_or_eq_of_mem_set hx with h | h
        · rw [h2, h1] at h; exact ((Byt.z64.over (byt_layL _ _) _).over (byt_layL _ _) _) x h
        · omega
      have a6 : Byt L6 := by rw [h6, h5, h4]; exact ((a3.over (byt_layL _ _) _).over (byt_layL _ _) _).over hw.2.2.2.2.2.2.2 _
      have e6 : L6 = encB b (sn + 1) := by rw [h6, h5, h4, h3, h2, h1]; rfl
      have LAY1 := Lib.hid (show ∀ g V, Blk V g 38 (U8 Z64) → Calls Try.prog 50 #[.slice (some ⟨g, 0, none⟩) 8 64, .int .u64 (sn + 1)] V fun e w' => e = .returned (.tuple #[]) ∧ Blk w' g 38 (U8 L1) ∧ Only V w' g from fun g V hV => by
        rw [h1]; exact lay_any g 0 8 64 38 Z64 (sn + 1) V hV (by rw [len_Z64]; omega) (by omega) (by omega))
      have LAY2 := Lib.hid (show ∀ g V, Blk V g 38 (U8 L1) → Calls Try.prog 50 #[.slice (some ⟨g, 56, none⟩) 8 8, .int .u64 (sn + 1)] V fun e w' => e = .returned (.tuple #[]) ∧ Blk w' g 38 (U8 L2) ∧ Only V w' g from fun g V hV => by
        rw [h2]; exact lay_any g 56 8 8 38 L1 (sn + 1) V hV (by omega) (by omega) (by omega))
      have LAY4 := Lib.hid (show ∀ g V, Blk V g 38 (U8 L3) → Calls Try.prog 50 #[.slice (some ⟨g, 9, none⟩) 8 55, .int .u64 b.epoch] V fun e w' => e = .returned (.tuple #[]) ∧ Blk w' g 38 (U8 L4) ∧ Only V w' g from fun g V hV => by
        rw [h4]; exact lay_any g 9 8 55 38 L3 b.epoch V hV (by omega) (by omega) (by omega))
      have LAY5 := Lib.hid (show ∀ g V, Blk V g 38 (U8 L4) → Calls Try.prog 50 #[.slice (some ⟨g, 17, none⟩) 4 47, .int .u64 b.size] V fun e w' => e = .returned (.tuple #[]) ∧ Blk w' g 38 (U8 L5) ∧ Only V w' g from fun g V hV => by
        rw [h5]; exact lay_any g 17 4 47 38 L4 b.size V hV (by omega) (by omega) (by have := hmay.2.2.2.1; omega))
      have E3 := Lib.hid h3
      have E6 := Lib.hid h6
      have EE := Lib.hid e6
      have LL2 := Lib.hid l2
      have LL5 := Lib.hid l5
      have LL6 := Lib.hid l6
      have A6 := Lib.hid a6
      have BL := Lib.hid hbl
      have hsz0 : 0 ≤ b.size ∧ b.size ≤ 1000000 := ⟨by have := hmay.2.2.2.1; omega, by have := hmay.2.2.2.2; omega⟩
      have S6 := Lib.hid (show (Try.prog.info? 38).map (·.size) = some (U8 L6).size by rw [size_U8, l6]; exact size38)
      have WE := Lib.hid (show IntKind.u64.wrap b.epoch = b.epoch from IntWalk.u64_in _ (by omega))
      have WZ := Lib.hid (show IntKind.u64.wrap b.size = b.size from IntWalk.u64_in _ (by omega))
      clear h2 h3 h4 h5 h6 l1 l2 l3 l4 l5 l6 a3 a6 e6 hbl
      have MAY := Lib.hid hmay
      have AND := Lib.hid (and_one (sn + 1) (by omega) (by omega))
      clear hmay
      rcases hse2 with hz0 | hz0 <;> subst hz0
      all_goals
        go_enter Try.func12, Try.ntmps12
        clear HB
        go_wp2_with (first
          | (go_at_call 14; refine (SV.out _ H.out).mono ?_; rintro e w1 ⟨rfl, b1⟩; have X1 := Lib.hid (show Blk w1 w.heap.size 31 b.cells from (b1.block w.heap.size LT0.out).trans (Blk.new w 31 b.cells)); have B1 := Lib.hid (BB.out.trans (b1.mono BB.out.size)); clear b1)
          | (refine wpList_new rfl 31 rfl _ run_zero31 w1.heap.size rfl ?_; intro w2 g0 hs2 hb2; have G2 := Lib.hid (show Blk w2 w1.heap.size 31 BT.zero.cells from g0); have B2 := Lib.hid hb2; clear g0 hb2)
          | (refine wpList_store_blk rfl 31 _ _ rfl w1.heap.size 31 _ C.cells rfl rfl G2.out RC0.out RC.out (one_BT _) ?_; intro w3 g3 ho3; have G3 := Lib.hid g3; have O3 := Lib.hid ho3; clear g3 ho3; have X3 := Lib.hid (show Blk w3 w.heap.size 31 b.cells from O3.out.blk ((B2.out.block _ X1.out.lt).trans X1.out) (by have := X1.out.lt; omega)); have B3 := Lib.hid (show Below w.heap.size w w3 from (Only.kept (F := fun _ => False) (Kept.below (B1.out.trans (B2.out.mono B1.out.size))) O3.out (.inr B1.out.size)).toBelow))
          | (refine wpList_load_row_w rfl 31 _ rfl w.heap.size rfl 31 b.cells (0, 0) _ X3.out Try.underlying31 rfl RB.out ?_)
          | (go_at_call 49; refine (M.out w3).mono ?_; rintro e w4 ⟨rfl, b4⟩; have X4 := Lib.hid (show Blk w4 w.heap.size 31 b.cells from (b4.block _ X3.out.lt).trans X3.out); have B4 := Lib.hid (B3.out.trans (b4.mono B3.out.size)); clear b4) 
          | (refine wpList_new rfl 38 rfl _ run_zero38 w4.heap.size rfl ?_; intro w5 g0 hs5 hb5; have G5 := Lib.hid (show Blk w5 w4.heap.size 38 (U8 Z64) from g0); have X5 := Lib.hid (show Blk w5 w.heap.size 31 b.cells from (hb5.block _ X4.out.lt).trans X4.out); have B5 := Lib.hid (show Below w.heap.size w w5 from B4.out.trans (hb5.mono B4.out.size)); have NE := Lib.hid (show w.heap.size ≠ w4.heap.size from Nat.ne_of_lt X4.out.lt); clear g0 hb5)
          | (go_at_call 50; with_reducible refine (LAY1.out _ _ G5.out).mono ?_; rintro e w6 ⟨rfl, g6, ho6⟩; have G6 := Lib.hid g6; have O6 := Lib.hid ho6; clear g6 ho6)
          | (go_at_call 50; with_reducible refine (LAY2.out _ _ G6.out).mono ?_; rintro e w7 ⟨rfl, g7, ho7⟩; have G7 := Lib.hid g7; have O7 := Lib.hid ho7; have X7 := Lib.hid (show Blk w7 w.heap.size 31 b.cells from ho7.blk (O6.out.blk X5.out NE.out) NE.out); clear g7 ho7; obtain ⟨q0, q1, q2⟩ := SBm.out _ X7.out)
          | (refine wpList_store_cell rfl 5 _ _ rfl w4.heap.size 8 38 (U8 L2) (.int .u8 b.area) rfl rfl G7.out (by rw [size_U8, LL2.out]; omega) size1_5 rfl rfl ?_; intro w8 g8 ho8; have G8 := Lib.hid (show Blk w8 w4.heap.size 38 (U8 L3) by rw [set_U8, ← E3.out] at g8; exact g8); have O8 := Lib.hid ho8; clear q0 q1 q2; have X8 := Lib.hid (show Blk w8 w.heap.size 31 b.cells from ho8.blk X7.out NE.out); clear g8 ho8; obtain ⟨q0, q1, q2⟩ := SBm.out _ X8.out))
        go_region_law (go_simp; go_at_call 50; rw [WE.out]; refine (LAY4.out _ _ G8.out.drew).mono ?_; rintro e w9 ⟨rfl, g9, ho9⟩)
        have G9 := Lib.hid g9
        have O9 := Lib.hid ho9
        have X9 := Lib.hid (show Blk w9 w.heap.size 31 b.cells from ho9.blk X8.out.drew NE.out)
        clear g9 ho9 q0 q1 q2
        obtain ⟨q0, q1, q2⟩ := SBm.out _ X9.out
        go_wp2_with fail
        go_region_law (go_simp; go_at_call 50; rw [WZ.out]; refine (LAY5.out _ _ G9.out.drew).mono ?_; rintro e w10 ⟨rfl, g10, ho10⟩)
        have G10 := Lib.hid g10
        have O10 := Lib.hid ho10
        have X10 := Lib.hid (show Blk w10 w.heap.size 31 b.cells from ho10.blk X9.out.drew NE.out)
        clear g10 ho10 q0 q1 q2
        go_wp2_with fail
        go_region_law ((refine step_copy_U8 rfl (.tmp 62) (.tmp 64) 22 22 rfl 5 Try.underlying22 (by kernel_rfl) w4.heap.size 21 32 43 ⟨w.heap.size, 3, none⟩ 32 32 (by rfl) (by rfl) 38 L5 b.whole G10.out.drew (by rw [BL.out]; rfl) (src_BT b X10.out.drew) (by rw [BL.out, LL5.out]; omega) ?_; intro w11 g11 ho11))
        have G11 := Lib.hid (show Blk w11 w4.heap.size 38 (U8 L6) by rw [E6.out]; exact g11)
        have O11 := Lib.hid ho11
        clear g11 ho11
        have B11 := Lib.hid (show Below w.heap.size w w11 from
          (Only.kept (Only.kept (Only.kept (Only.kept (Only.kept (Only.kept (F := fun _ => False) (Kept.below B5.out) O6.out (.inr B4.out.size)) O7.out (.inr B4.out.size)) O8.out (.inr B4.out.size)).drew O9.out (.inr B4.out.size)).drew O10.out (.inr B4.out.size)).drew O11.out (.inr B4.out.size)).toBelow)
        have D11 := Lib.hid (D.out.below B11.out)
        go_wp2_with (first
          | (refine wpList_load_row rfl 38 _ rfl w4.heap.size rfl 38 (U8 L6) (0, 0) _ G11.out Try.underlying38 rfl S6.out ?_))
        rw [AND.out]
        have hN := NM.out
        obtain ⟨at2, ha2⟩ : ∃ a2, a2 = at_ + 1 - (sn + 1) % 2 := ⟨_, rfl⟩
        have hw2 : wrap64 (wrap64 (at_ + 1) - (sn + 1) % 2) = at2 := by
          rw [IntWalk.wrap64_in (at_ + 1) (by omega), IntWalk.wrap64_in _ (by omega), ha2]
        have hb2 : 0 ≤ at2 ∧ at2 < (s.n : Int) := by omega
        have A2 := Lib.hid ha2
        clear ha2
        rw [hw2]
        clear hw2
        go_wp2_with (first
          | (go_at_call 16; refine (write_ok p s at2 L6 w11 D11.out hd hb2.1 hb2.2 LL6.out A6.out).mono ?_; rintro e w12 ⟨rfl, p', st⟩; have ST := Lib.hid st; clear st)
          | (go_at_call 39; rw [← ST.out.bd]; refine (flush_ok p' (s.put at2 L6) w12 ST.out.disk hd).mono ?_; rintro e w13 ⟨rfl, p'', st⟩; have ST2 := Lib.hid st; clear st))
        go_ret
        refine .inr (.inr ⟨MAY.out, by rw [← SN.out]; exact hmx, rfl, p'', ?_⟩)
        rw [← SN.out, ← EE.out, ← A2.out]
        exact (Step.of_below D.out B11.out).trans (ST.out.trans ST2.out)
end Go.Proofs.Ytfodboooopkheaa
