/- image.read: what a boot block says. -/
import Derived.Test.YtfodboooopkheaaFlow
namespace Go.Proofs.Ytfodboooopkheaa
open Go.RowKit
theorem quiet_left {P : Program} {f : FuncId} {args : Array Value} {w : World} {n : Nat} {v : Value}
    (h : Calls P f args (w.drewN n) fun e w' => e = .returned v ∧ w.drewN n = w') : Calls P f args (w.drewN n) fun e w'' => e = .returned v ∧ ∃ m, w'' = w.drewN m :=
  h.mono fun _ _ ⟨he, hm⟩ => ⟨he, n, hm.symm⟩
theorem run_zero31 (w : World) : (zeroValue 31).run Try.prog w = .ok (.agg BT.zero.cells) w := by kernel_rfl
theorem size31 : (Try.prog.info? 31).map (·.size) = some 35 := by kernel_rfl
theorem size28 : (Try.prog.info? 28).map (·.size) = some 32 := by kernel_rfl
/-- what a boot block's bytes say, before they are looked at -/
def rawB (x : List Int) : BT := ⟨x.getD 8 0, min (numL ((x.drop 9).take 8)) 1099511627777, numL ((x.drop 17).take 4), (x.drop 21).take 32⟩

/-- what a boot block says: its boot, and its count; a count of 0: it is not good -/
def readB (x : List Int) : BT × Int :=
  if numL (x.take 8) ≤ 1099511627776 ∧ numL (x.take 8) = numL ((x.drop 56).take 8) ∧ numL ((x.drop 53).take 3) = 0 ∧ (rawB x).may then (rawB x, numL (x.take 8)) else (BT.zero, 0)
theorem foldl_setIf (X : List Value) : ∀ (k : Nat) (cs : Array Value) (off : Nat), off + k + X.length ≤ cs.size →
    ((X.zipIdx k).foldl (fun (cs : Array Value) (x : Value × Nat) => cs.setIfInBounds (off + x.snd) x.fst) cs).toList = cs.toList.take (off + k) ++ (X ++ cs.toList.drop (off + k + X.length)) := by
  induction X with
  | nil => intro k cs off _; simp
  | cons v r ih =>
    intro k cs off h
    simp only [List.zipIdx_cons, List.foldl_cons]
    rw [ih (k + 1) _ off (by simp at h ⊢; omega)]
    have h1 : off + k < cs.toList.length := by simp at h ⊢; omega
    have e1 : off + (k + 1) = off + k + 1 := by omega
    have e2 : off + k + 1 + r.length = off + k + (r.length + 1) := by omega
    simp only [Array.toList_setIfInBounds, e1, e2, List.length_cons]
    rw [List.take_succ_eq_append_getElem (by simpa using h1), List.getElem_set_self, List.take_set_of_le (Nat.le_refl _), List.drop_set_of_lt (by omega)]
    simp
theorem built31 (x m q : Int) (X : List Value) (l : List Int) (hX : X = l.map (Value.int .u8)) (hl : l.length = 32) :
    List.foldl (fun (cs : Array Value) (x : Value × Nat) => cs.setIfInBounds (3 + x.snd) x.fst) #[Value.int IntKind.i64 x, Value.int IntKind.i64 m, Value.int IntKind.i64 q, Value.int IntKind.u8 0, Value.int IntKind.u8 0, Value.int IntKind.u8 0, Value.int IntKind.u8 0, Value.int IntKind.u8 0, Value.int IntKind.u8 0, Value.int IntKind.u8 0, Value.int IntKind.u8 0, Value.int IntKind.u8 0, Value.int IntKind.u8 0, Value.int IntKind.u8 0, Value.int IntKind.u8 0, Value.int IntKind.u8 0, Value.int IntKind.u8 0, Value.int IntKind.u8 0, Value.int IntKind.u8 0, Value.int IntKind.u8 0, Value.int IntKind.u8 0, Value.int IntKind.u8 0, Value.int IntKind.u8 0, Value.int IntKind.u8 0, Value.int IntKind.u8 0, Value.int IntKind.u8 0, Value.int IntKind.u8 0, Value.int IntKind.u8 0, Value.int IntKind.u8 0, Value.int IntKind.u8 0, Value.int IntKind.u8 0, Value.int IntKind.u8 0, Value.int IntKind.u8 0, Value.int IntKind.u8 0, Value.int IntKind.u8 0] X.zipIdx = BT.cells ⟨x, m, q, l⟩ := by
  have h := foldl_setIf X 0 #[Value.int IntKind.i64 x, Value.int IntKind.i64 m, Value.int IntKind.i64 q, Value.int IntKind.u8 0, Value.int IntKind.u8 0, Value.int IntKind.u8 0, Value.int IntKind.u8 0, Value.int IntKind.u8 0, Value.int IntKind.u8 0, Value.int IntKind.u8 0, Value.int IntKind.u8 0, Value.int IntKind.u8 0, Value.int IntKind.u8 0, Value.int IntKind.u8 0, Value.int IntKind.u8 0, Value.int IntKind.u8 0, Value.int IntKind.u8 0, Value.int IntKind.u8 0, Value.int IntKind.u8 0, Value.int IntKind.u8 0, Value.int IntKind.u8 0, Value.int IntKind.u8 0, Value.int IntKind.u8 0, Value.int IntKind.u8 0, Value.int IntKind.u8 0, Value.int IntKind.u8 0, Value.int IntKind.u8 0, Value.int IntKind.u8 0, Value.int IntKind.u8 0, Value.int IntKind.u8 0, Value.int IntKind.u8 0, Value.int IntKind.u8 0, Value.int IntKind.u8 0, Value.int IntKind.u8 0, Value.int IntKind.u8 0] 3 (by simp [hX, hl])
  apply Array.toList_inj.1
  rw [h, hX]
  simp [BT.cells, hl]
theorem alloc_setRow (V : World) (A C : Array Value) (t : TypeId) : (V.alloc (.cells A t)).setRow V.heap.size C = V.alloc (.cells C t) := by
  unfold World.setRow World.alloc
  congr 1
  apply Array.ext
  · simp
  · intro i h1 h2
    simp only [Array.getElem_modify, Array.getElem_push]
    by_cases h : V.heap.size = i
    · subst h; simp
    · have : i < V.heap.size := by simp at h2; omega
      simp [h, this]
/-- the frame of image.read while its second statement is carried out: what is done stands in its slot -/
def T51 (x : List Int) (g : Nat) (n m q x8 mn : Int) (X : List Value) (C : Array Value) (L : Nat → Bool) : Array Value :=
  #[.agg (U8 x), .pointer (some ⟨g, 0, none⟩), .pointer (some ⟨g + 1, 0, none⟩), .int .i64 0, .int .u64 n, .int .u64 m, bif L 13 then .pointer (some ⟨g + 2, 0, none⟩) else undef,
    .slice (some ⟨g, 0, none⟩) 8 64, .int .u64 n, .slice (some ⟨g, 9, none⟩) 8 55, .int .u64 m,
    bif L 0 then .pointer (some ⟨g, 8, none⟩) else undef, bif L 1 then .int .u8 x8 else undef, bif L 2 then .int .i64 x8 else undef, bif L 3 then .int .u64 m else undef,
    bif L 4 then .int .u64 mn else undef, bif L 5 then .int .i64 mn else undef, bif L 6 then .slice (some ⟨g, 17, none⟩) 4 47 else undef,
    bif L 7 then .int .u64 q else undef, bif L 8 then .int .i64 q else undef, bif L 9 then .slice (some ⟨g, 21, none⟩) 32 43 else undef, bif L 10 then .pointer (some ⟨g, 21, none⟩) else undef,
    bif L 11 then .agg X.toArray else undef, bif L 12 then .agg C else undef,
    undef, undef, undef, undef, undef, undef, undef, undef, undef, undef, undef, undef, undef, undef, undef, undef, undef, undef, undef, undef, undef, undef]
/-- the world meanwhile -/
def V51 (W : World) (C : Array Value) (L : Nat → Bool) : World := bif L 13 then (bif L 14 then W.alloc (.cells C 31) else W.alloc (.cells BT.zero.cells 31)) else W
def I51 (x : List Int) (g : Nat) (n m q x8 mn : Int) (X : List Value) (C : Array Value) (W : World) (L : Nat → Bool) (a : Act) (w : World) : Prop :=
  a = ⟨T51 x g n m q x8 mn X C L, []⟩ ∧ w = V51 W C L ∧ (L 14 = true → L 13 = true)
set_option maxRecDepth 100000 in
set_option maxHeartbeats 1000000 in
theorem read_any (x : List Int) (w : World) (hx : x.length = 64) (hb : Byt x) :
    Calls Try.prog 51 #[.agg (U8 x)] w fun e w' => e = .returned (.tuple #[.agg (readB x).1.cells, .int .i64 (readB x).2]) ∧ Below w.heap.size w w' := by
  obtain ⟨wb, hwb⟩ : ∃ wb, wb = w.alloc (.cells (U8 x) 38) := ⟨_, rfl⟩
  have XB := Lib.hid (show Blk wb w.heap.size 38 (U8 x) by rw [hwb]; exact Blk.new _ _ _)
  go_enter Try.func51, Try.ntmps51
  go_wp2_with (refine wpList_new rfl 31 rfl _ run_zero31 (w.heap.size + 1) (World.size_alloc _ _) ?_; intro w1 g0 hs1 hb1; have g1 : Blk w1 (w.heap.size + 1) 31 BT.zero.cells := g0; clear g0)
  have X1 := Lib.hid (show Blk w1 w.heap.size 38 (U8 x) from (hb1.block _ (Nat.lt_succ_self _)).trans (Blk.new w 38 (U8 x)))
  obtain ⟨n, hn⟩ : ∃ n, n = numL (x.take 8) := ⟨_, rfl⟩
  obtain ⟨m, hm⟩ : ∃ m, m = numL ((x.drop 9).take 8) := ⟨_, rfl⟩
  have N1 := Lib.hid (show ∀ k, Calls Try.prog 77 #[.slice (some ⟨w.heap.size, 0, none⟩) 8 64] (w1.drewN k) fun e w' => e = .returned (.int .u64 n) ∧ (w1.drewN k) = w' from fun k => by rw [hn]; exact number_any _ 0 8 64 38 x _ (X1.out.drewN k) hb (by omega) (by omega))
  have N2 := Lib.hid (show ∀ k, Calls Try.prog 77 #[.slice (some ⟨w.heap.size, 9, none⟩) 8 55] (w1.drewN k) fun e w' => e = .returned (.int .u64 m) ∧ (w1.drewN k) = w' from fun k => by rw [hm]; exact number_any _ 9 8 55 38 x _ (X1.out.drewN k) hb (by omega) (by omega))
  go_quiet ((go_at_call 77; first | (with_reducible exact quiet_left (N1.out _)) | (with_reducible exact quiet_left (N2.out _))))
  go_wp2_with fail
  have XW := X1.out.drewN nq
  have hsW : (w1.drewN nq).heap.size = w.heap.size + 2 := hs1
  have hbW : Below w.heap.size w (w1.drewN nq) ∧ Blk (w1.drewN nq) (w.heap.size + 1) 31 BT.zero.cells := ⟨by
    have h1 : Below w.heap.size w (w.alloc (.cells (U8 x) 38)) := (Below.refl _ _).alloc (Nat.le_refl _) _
    have h2 := h1.trans (hb1.mono (Nat.le_succ _))
    exact ⟨h2.os, h2.tape, h2.output, h2.size, h2.block⟩, g1.drewN nq⟩
  generalize w1.drewN nq = W at *
  have c8 : W.cell? ⟨w.heap.size, 8, none⟩ = some (.int .u8 x[8]) := by rw [XW.cell, get_U8_lt _ _ (by omega)]
  obtain ⟨l32, hl32⟩ : ∃ l, l = (x.drop 21).take 32 := ⟨_, rfl⟩
  have hlen32 : l32.length = 32 := by rw [hl32]; simp; omega
  obtain ⟨X, hX⟩ : ∃ X : List Value, X = ((x.drop 21).take 32).map (Value.int .u8) := ⟨_, rfl⟩
  have hXl : X.length = 32 := by rw [hX]; simp; omega
  have hX1 : ∀ v ∈ X, v.oneCell' = true := by rw [hX]; exact one_map _
  have hXi : (Try.prog.info? 28).map (·.size) = some X.length := by rw [hXl]; exact size28
  have hR : W.rangeAt w.heap.size 21 X := by rw [hX]; exact XW.rangeU8 21 32 (by omega)
  have hX32 : X = l32.map (Value.int .u8) := by rw [hX, hl32]
  have L32 := Lib.hid hl32
  have X32 := Lib.hid hX32
  clear hl32 hX32
  have hu28 := Try.underlying28
  obtain ⟨x8, hx8⟩ : ∃ y, y = x[8] := ⟨_, rfl⟩
  rw [← hx8] at c8
  have XX := Lib.hid hX
  have X8 := Lib.hid hx8
  have HN := Lib.hid hn
  have HM := Lib.hid hm
  clear hX hx8 hn hm
  obtain ⟨q, hq⟩ : ∃ q, q = numL ((x.drop 17).take 4) := ⟨_, rfl⟩
  have HQ := Lib.hid hq
  have N3 := Lib.hid (show ∀ V : World, Blk V w.heap.size 38 (U8 x) → Calls Try.prog 77 #[.slice (some ⟨w.heap.size, 17, none⟩) 4 47] V fun e w' => e = .returned (.int .u64 q) ∧ V = w' from fun V hV => by rw [hq]; exact number_any _ 17 4 47 38 x _ hV hb (by omega) (by omega))
  clear hq
  have hArr : ∀ V : World, (Instr.arrayAt 28 (.slice (some ⟨w.heap.size, 21, none⟩) 32 43)).run Try.prog V = .ok (.pointer (some ⟨w.heap.size, 21, none⟩)) V := fun V => by
    simp [Instr.arrayAt, run_underlying Try.underlying28]
  have bx := hb.get (show 8 < x.length by omega)
  rw [← X8.out] at bx
  have bm := (numL_bd 8 ((x.drop 9).take 8) (by simp; omega) ((hb.drop 9).take 8)).1
  rw [← HM.out] at bm
  have bq := numL_bd 4 ((x.drop 17).take 4) (by simp; omega) ((hb.drop 17).take 4)
  rw [← HQ.out] at bq
  have wx : IntKind.i64.wrap x8 = x8 := IntWalk.i64_in _ (by omega)
  have wq : IntKind.i64.wrap q = q := IntWalk.i64_in _ (by omega)
  obtain ⟨mn, hmn, hmw⟩ : ∃ mn, mn = min m 1099511627777 ∧ IntKind.i64.wrap mn = mn := ⟨_, rfl, IntWalk.i64_in _ (by omega)⟩
  obtain ⟨C, hC⟩ : ∃ C, C = BT.cells ⟨x8, mn, q, l32⟩ := ⟨_, rfl⟩
  have hCs : C.size = 35 := by rw [hC]; exact size_BT _ hlen32
  have hF := built31 x8 mn q X l32 X32.out hlen32
  rw [← hC] at hF
  dsimp only at hF
  have hC1 : ∀ v ∈ C.toList, v.oneCell' = true := by rw [hC]; exact one_BT _
  have CC := Lib.hid hC
  have MN := Lib.hid hmn
  have hmi : (if 1099511627777 < m then 1099511627777 else m) = mn := by rw [hmn]; split <;> omega
  clear hC hmn
  have XD := XW.drew
  refine wp_region_flow_plain (by kernel_rfl) (by kernel_rfl) (by kernel_rfl) (I51 x w.heap.size n m q x8 mn X C W.drew) ⟨rfl, rfl, fun h => h⟩ ?_ ?_
  · have hB : ∀ L, Blk (V51 W.drew C L) w.heap.size 38 (U8 x) := by
      intro L
      unfold V51
      cases L 13
      · exact XD
      · cases L 14
        · exact XD.alloc _
        · exact XD.alloc _
    have h8 : ∀ L, (V51 W.drew C L).cell? ⟨w.heap.size, 8, none⟩ = some (.int .u8 x8) := fun L => by rw [(hB L).cell, get_U8_lt _ _ (by omega), X8.out]
    have hR2 : ∀ L, (V51 W.drew C L).rangeAt w.heap.size 21 X := fun L => by rw [XX.out]; exact (hB L).rangeU8 21 32 (by omega)
    intro i o ho L a w' hI hLi hdep
    obtain ⟨rfl, rfl, h1413⟩ := hI
    match i, ho with
    | 0, ho =>
      simp at ho
      subst ho
      unfold T51
      go_simp
      exact ⟨by simp [T51, setL, *], by simp [V51, setL, *], by simpa [setL] using h1413⟩
    | 1, ho =>
      simp at ho
      subst ho
      have d0 : L 0 = true := hdep ⟨0, .data⟩ (by simp) rfl
      have c8' := h8 L
      unfold T51
      go_simp
      exact ⟨by simp [T51, setL, *], by simp [V51, setL, *], by simpa [setL] using h1413⟩
    | 2, ho =>
      simp at ho
      subst ho
      have d1 : L 1 = true := hdep ⟨1, .data⟩ (by simp) rfl
      unfold T51
      go_simp
      exact ⟨by simp [T51, setL, *], by simp [V51, setL, *], by simpa [setL] using h1413⟩
    | 3, ho =>
      simp at ho
      subst ho
      unfold T51
      go_simp
      exact ⟨by simp [T51, setL, *], by simp [V51, setL, *], by simpa [setL] using h1413⟩
    | 4, ho =>
      simp at ho
      subst ho
      have d3 : L 3 = true := hdep ⟨3, .data⟩ (by simp) rfl
      unfold T51
      go_simp
      exact ⟨by simp [T51, setL, *], by simp [V51, setL, *], by simpa [setL] using h1413⟩
    | 5, ho =>
      simp at ho
      subst ho
      have d4 : L 4 = true := hdep ⟨4, .data⟩ (by simp) rfl
      unfold T51
      go_simp
      exact ⟨by simp [T51, setL, *], by simp [V51, setL, *], by simpa [setL] using h1413⟩
    | 6, ho =>
      simp at ho
      subst ho
      unfold T51
      go_simp
      exact ⟨by simp [T51, setL, *], by simp [V51, setL, *], by simpa [setL] using h1413⟩
    | 7, ho =>
      simp at ho
      subst ho
      have d6 : L 6 = true := hdep ⟨6, .data⟩ (by simp) rfl
      unfold T51
      go_simp
      go_at_call 77
      refine (N3.out _ (hB L)).mono ?_
      rintro e w'' ⟨rfl, rfl⟩
      exact ⟨by simp [T51, setL, *], by simp [V51, setL, *], by simpa [setL] using h1413⟩
    | 8, ho =>
      simp at ho
      subst ho
      have d7 : L 7 = true := hdep ⟨7, .data⟩ (by simp) rfl
      unfold T51
      go_simp
      exact ⟨by simp [T51, setL, *], by simp [V51, setL, *], by simpa [setL] using h1413⟩
    | 9, ho =>
      simp at ho
      subst ho
      unfold T51
      go_simp
      exact ⟨by simp [T51, setL, *], by simp [V51, setL, *], by simpa [setL] using h1413⟩
    | 10, ho =>
      simp at ho
      subst ho
      have d9 : L 9 = true := hdep ⟨9, .data⟩ (by simp) rfl
      unfold T51
      go_simp
      exact ⟨by simp [T51, setL, *], by simp [V51, setL, *], by simpa [setL] using h1413⟩
    | 11, ho =>
      simp at ho
      subst ho
      have d10 : L 10 = true := hdep ⟨10, .data⟩ (by simp) rfl
      refine wp_load_mid 28 _ rfl w.heap.size 21 (by simp [Act.eval, T51, d10]) X _ (hR2 L) hu28 rfl hXi ?_
      exact ⟨by simp [Act.put, T51, setL, *], by simp [V51, setL, *], by simpa [setL] using h1413⟩
    | 12, ho =>
      simp at ho
      subst ho
      have d2 : L 2 = true := hdep ⟨2, .data⟩ (by simp) rfl
      have d5 : L 5 = true := hdep ⟨5, .data⟩ (by simp) rfl
      have d8 : L 8 = true := hdep ⟨8, .data⟩ (by simp) rfl
      have d11 : L 11 = true := hdep ⟨11, .data⟩ (by simp) rfl
      unfold T51
      go_simp
      exact ⟨by simp [T51, setL, *], by simp [V51, setL, *], by simpa [setL] using h1413⟩
    | 13, ho =>
      simp at ho
      subst ho
      have n14 : L 14 = false := by cases h : L 14 with | false => rfl | true => rw [h1413 h] at hLi; cases hLi
      have eV : V51 W.drew C L = W.drew := by simp [V51, hLi]
      rw [eV]
      refine wp_new 31 rfl _ run_zero31 (w.heap.size + 2) hsW ?_
      exact ⟨by simp [Act.put, T51, setL, *], by simp [V51, setL, *, Value.cells], by simp [setL]⟩
    | 14, ho =>
      simp at ho
      subst ho
      have d13 : L 13 = true := hdep ⟨13, .data⟩ (by simp) rfl
      have d12 : L 12 = true := hdep ⟨12, .data⟩ (by simp) rfl
      have eV : V51 W.drew C L = W.drew.alloc (.cells BT.zero.cells 31) := by simp [V51, hLi, d13]
      rw [eV]
      have gz : Blk (W.drew.alloc (.cells BT.zero.cells 31)) (w.heap.size + 2) 31 BT.zero.cells := by
        have := Blk.new W.drew 31 BT.zero.cells
        rwa [show W.drew.heap.size = w.heap.size + 2 from hsW] at this
      refine wp_store_blk 31 _ _ rfl (w.heap.size + 2) 31 BT.zero.cells C (by simp [Act.eval, T51, d13]) (by simp [Act.eval, T51, d12]) gz (by rw [hCs]; rfl) (by rw [hCs]; exact size31) hC1 ?_
      have eS : (W.drew.alloc (.cells BT.zero.cells 31)).setRow (w.heap.size + 2) C = W.drew.alloc (.cells C 31) := by
        have := alloc_setRow W.drew BT.zero.cells C 31
        rwa [show W.drew.heap.size = w.heap.size + 2 from hsW] at this
      rw [eS]
      exact ⟨by simp [Act.put, T51, setL], by simp [V51, setL, *], by simp [setL, *]⟩
    | k + 15, ho => simp at ho
  · intro L a w' hI hall
    obtain ⟨rfl, rfl, _⟩ := hI
    have hT : T51 x w.heap.size n m q x8 mn X C L = T51 x w.heap.size n m q x8 mn X C (fun _ => true) := by
      simp [T51, hall 0, hall 1, hall 2, hall 3, hall 4, hall 5, hall 6, hall 7, hall 8, hall 9, hall 10, hall 11, hall 12, hall 13]
    have hV : V51 W.drew C L = W.drew.alloc (.cells C 31) := by simp [V51, hall 13, hall 14]
    rw [hT, hV]
    simp only [T51, cond_true]
    have Y1 : Blk (W.drew.alloc (.cells C 31)) w.heap.size 38 (U8 x) := XD.alloc _
    have Y2 : Blk (W.drew.alloc (.cells C 31)) (w.heap.size + 1) 31 BT.zero.cells := hbW.2.drew.alloc _
    have Y3 : Blk (W.drew.alloc (.cells C 31)) (w.heap.size + 2) 31 C := by
      have := Blk.new W.drew 31 C
      rwa [show W.drew.heap.size = w.heap.size + 2 from hsW] at this
    have Y4 : Below w.heap.size w (W.drew.alloc (.cells C 31)) := (hbW.1.drew).alloc (by show w.heap.size ≤ W.drew.heap.size; rw [show W.drew.heap.size = w.heap.size + 2 from hsW]; omega) _
    generalize (W.drew.alloc (.cells C 31)) = W2 at *
    have Z1 := Lib.hid Y1
    have Z2 := Lib.hid Y2
    have Z3 := Lib.hid Y3
    have Z4 := Lib.hid Y4
    have HC := Lib.hid hCs
    clear Y1 Y2 Y3 Y4 hT hV hall hCs hF hC1 hmi hmw XD hArr hu28 hXi hX1 hXl hlen32 wq wx
    have N4 := Lib.hid (show ∀ V : World, Blk V w.heap.size 38 (U8 x) → Calls Try.prog 77 #[.slice (some ⟨w.heap.size, 56, none⟩) 8 8] V fun e w' => e = .returned (.int .u64 (numL ((x.drop 56).take 8))) ∧ V = w' from fun V hV => number_any _ 56 8 8 38 x _ hV hb (by omega) (by omega))
    have N5 := Lib.hid (show ∀ V : World, Blk V w.heap.size 38 (U8 x) → Calls Try.prog 77 #[.slice (some ⟨w.heap.size, 53, none⟩) 3 11] V fun e w' => e = .returned (.int .u64 (numL ((x.drop 53).take 3))) ∧ V = w' from fun V hV => number_any _ 53 3 11 38 x _ hV hb (by omega) (by omega))
    have hS31 : (Try.prog.info? 31).map (·.size) = some C.size := by rw [HC.out]; exact size31
    have HS := Lib.hid hS31
    have hraw : rawB x = ⟨x8, mn, q, l32⟩ := by
      unfold rawB
      rw [MN.out, HM.out, HQ.out, L32.out, X8.out, List.getD_eq_getElem?_getD, List.getElem?_eq_getElem (by omega : 8 < x.length)]
      rfl
    have hmn2 := MN.out
    have hwf : (rawB x).wf := by
      rw [hraw]
      refine ⟨by show _ ≤ x8; omega, by show x8 ≤ _; omega, by show _ ≤ mn; omega, by show mn ≤ _; omega, by show _ ≤ q; omega, by show q ≤ _; omega, ?_, ?_⟩
      · show l32.length = 32; rw [L32.out]; simp; omega
      · show Byt l32; rw [L32.out]; exact (hb.drop 21).take 32
    have hCr : C = (rawB x).cells := by rw [hraw, CC.out]
    have hn0 : 0 ≤ n := by rw [HN.out]; exact (numL_bd 8 (x.take 8) (by simp; omega) (hb.take 8)).1
    have R := Lib.hid hraw
    have CR := Lib.hid hCr
    have WF := Lib.hid hwf
    clear hraw hwf hCr hS31 bx bm bq c8 hR XW hsW hbW hmn2 X8
    obtain ⟨n8, h8⟩ : ∃ n8, n8 = numL ((x.drop 56).take 8) := ⟨_, rfl⟩
    obtain ⟨z, hz⟩ : ∃ z, z = numL ((x.drop 53).take 3) := ⟨_, rfl⟩
    rw [← h8] at N4
    rw [← hz] at N5
    have H8 := Lib.hid h8
    have HZ := Lib.hid hz
    clear h8 hz hb hx
    by_cases h1 : n > 1099511627776
    · have hbad : readB x = (BT.zero, 0) := if_neg (fun h => by have := h.1; rw [← HN.out] at this; omega)
      have M : True := trivial
      go_wp2_with (first
        | (go_at_call 77; first | (with_reducible refine (N4.out _ Z1.out).mono ?_) | (with_reducible refine (N5.out _ Z1.out).mono ?_)
           rintro e w' ⟨rfl, rfl⟩)
        | (refine wpList_load_row_w rfl 31 _ rfl (w.heap.size + 2) rfl 31 C (0, 0) _ Z3.out Try.underlying31 rfl HS.out ?_)
        | (go_at_call 49; with_reducible refine (M.out W2).mono ?_; rintro e W3 ⟨rfl, b3⟩; have B3 := Lib.hid b3; clear b3)
        | (refine wpList_store_blk rfl 31 _ _ rfl (w.heap.size + 1) 31 _ BT.zero.cells rfl (by rfl) Z2.out rfl size31 (one_BT _) ?_; intro W4 g4 ho4))
      refine bodyPost_ret (results_cell_tmp rfl _ _ (w.heap.size + 1) 31 BT.zero.cells _ rfl g4 Try.underlying31 rfl size31) rfl ⟨?_, ?_⟩
      · rw [hbad]; rfl
      · exact (Only.kept (F := fun _ => False) (Kept.below Z4.out) ho4 (.inr (Nat.le_succ _))).toBelow
    · by_cases h2 : n = n8
      · by_cases h3 : z = 0
        · subst h2
          subst h3
          by_cases h4 : (rawB x).may
          · have M := Lib.hid (show ∀ V, Calls Try.prog 49 #[.agg C] V fun e w' => e = .returned (.bool true) ∧ Below V.heap.size V w' from fun V => by rw [CR.out]; exact may_yes _ V h4)
            have hgood : readB x = (rawB x, n) := by
              rw [HN.out]
              exact if_pos ⟨by rw [← HN.out]; omega, by rw [← HN.out, ← H8.out], HZ.out.symm, h4⟩
            have wn : IntKind.i64.wrap n = n := IntWalk.i64_in _ (by omega)
            have hC1 : ∀ v ∈ C.toList, v.oneCell' = true := by rw [CR.out]; exact one_BT _
            have hC2 : C.size = BT.zero.cells.size := HC.out
            go_wp2_with (first
              | (go_at_call 77; first | (with_reducible refine (N4.out _ Z1.out).mono ?_) | (with_reducible refine (N5.out _ Z1.out).mono ?_)
                 rintro e w' ⟨rfl, rfl⟩)
              | (refine wpList_load_row_w rfl 31 _ rfl (w.heap.size + 2) rfl 31 C (0, 0) _ Z3.out Try.underlying31 rfl HS.out ?_)
              | (go_at_call 49; with_reducible refine (M.out W2).mono ?_; rintro e W3 ⟨rfl, b3⟩; have B3 := Lib.hid b3; clear b3)
              | (refine wpList_load_row rfl 31 _ rfl (w.heap.size + 2) rfl 31 C (0, 0) _ ((B3.out.block _ Z3.out.lt).trans Z3.out) Try.underlying31 rfl HS.out ?_)
              | (refine wpList_store_blk rfl 31 _ _ rfl (w.heap.size + 1) 31 _ C rfl rfl ((B3.out.block _ Z2.out.lt).trans Z2.out) hC2 HS.out hC1 ?_; intro W4 g4 ho4))
            refine bodyPost_ret (results_cell_tmp rfl _ _ (w.heap.size + 1) 31 C _ rfl g4 Try.underlying31 rfl HS.out) rfl ⟨?_, ?_⟩
            · rw [hgood, ← CR.out]; rfl
            · exact (Only.kept (F := fun _ => False) (Kept.below (Z4.out.trans (B3.out.mono Z4.out.size))) ho4 (.inr (Nat.le_succ _))).toBelow
          · have M := Lib.hid (show ∀ V, Calls Try.prog 49 #[.agg C] V fun e w' => e = .returned (.bool false) ∧ Below V.heap.size V w' from fun V => by rw [CR.out]; exact may_no _ V WF.out h4)
            have hbad : readB x = (BT.zero, 0) := if_neg (fun h => h4 h.2.2.2)
            go_wp2_with (first
              | (go_at_call 77; first | (with_reducible refine (N4.out _ Z1.out).mono ?_) | (with_reducible refine (N5.out _ Z1.out).mono ?_)
                 rintro e w' ⟨rfl, rfl⟩)
              | (refine wpList_load_row_w rfl 31 _ rfl (w.heap.size + 2) rfl 31 C (0, 0) _ Z3.out Try.underlying31 rfl HS.out ?_)
              | (go_at_call 49; with_reducible refine (M.out W2).mono ?_; rintro e W3 ⟨rfl, b3⟩; have B3 := Lib.hid b3; clear b3)
              | (refine wpList_store_blk rfl 31 _ _ rfl (w.heap.size + 1) 31 _ BT.zero.cells rfl (by rfl) ((B3.out.block _ Z2.out.lt).trans Z2.out) rfl size31 (one_BT _) ?_; intro W4 g4 ho4))
            refine bodyPost_ret (results_cell_tmp rfl _ _ (w.heap.size + 1) 31 BT.zero.cells _ rfl g4 Try.underlying31 rfl size31) rfl ⟨?_, ?_⟩
            · rw [hbad]; rfl
            · exact (Only.kept (F := fun _ => False) (Kept.below (Z4.out.trans (B3.out.mono Z4.out.size))) ho4 (.inr (Nat.le_succ _))).toBelow
        · have hbad : readB x = (BT.zero, 0) := if_neg (fun h => h3 (by rw [HZ.out]; exact h.2.2.1))
          subst h2
          have M : True := trivial
          go_wp2_with (first
            | (go_at_call 77; first | (with_reducible refine (N4.out _ Z1.out).mono ?_) | (with_reducible refine (N5.out _ Z1.out).mono ?_)
               rintro e w' ⟨rfl, rfl⟩)
            | (refine wpList_load_row_w rfl 31 _ rfl (w.heap.size + 2) rfl 31 C (0, 0) _ Z3.out Try.underlying31 rfl HS.out ?_)
            | (go_at_call 49; with_reducible refine (M.out W2).mono ?_; rintro e W3 ⟨rfl, b3⟩; have B3 := Lib.hid b3; clear b3)
            | (refine wpList_store_blk rfl 31 _ _ rfl (w.heap.size + 1) 31 _ BT.zero.cells rfl (by rfl) Z2.out rfl size31 (one_BT _) ?_; intro W4 g4 ho4))
          refine bodyPost_ret (results_cell_tmp rfl _ _ (w.heap.size + 1) 31 BT.zero.cells _ rfl g4 Try.underlying31 rfl size31) rfl ⟨?_, ?_⟩
          · rw [hbad]; rfl
          · exact (Only.kept (F := fun _ => False) (Kept.below Z4.out) ho4 (.inr (Nat.le_succ _))).toBelow
      · have hbad : readB x = (BT.zero, 0) := if_neg (fun h => h2 (by rw [HN.out, H8.out]; exact h.2.1))
        have h2' : (n == n8) = false := by simpa using h2
        have M : True := trivial
        go_wp2_with (first
          | (go_at_call 77; first | (with_reducible refine (N4.out _ Z1.out).mono ?_) | (with_reducible refine (N5.out _ Z1.out).mono ?_)
             rintro e w' ⟨rfl, rfl⟩)
          | (refine wpList_load_row_w rfl 31 _ rfl (w.heap.size + 2) rfl 31 C (0, 0) _ Z3.out Try.underlying31 rfl HS.out ?_)
          | (go_at_call 49; with_reducible refine (M.out W2).mono ?_; rintro e W3 ⟨rfl, b3⟩; have B3 := Lib.hid b3; clear b3)
          | (refine wpList_store_blk rfl 31 _ _ rfl (w.heap.size + 1) 31 _ BT.zero.cells rfl (by rfl) Z2.out rfl size31 (one_BT _) ?_; intro W4 g4 ho4))
        refine bodyPost_ret (results_cell_tmp rfl _ _ (w.heap.size + 1) 31 BT.zero.cells _ rfl g4 Try.underlying31 rfl size31) rfl ⟨?_, ?_⟩
        · rw [hbad]; rfl
        · exact (Only.kept (F := fun _ => False) (Kept.below Z4.out) ho4 (.inr (Nat.le_succ _))).toBelow
end Go.Proofs.Ytfodboooopkheaa
