/- image.Whole: is the image that lies in an area the one that a boot names? -/
import Derived.Test.YtfodboooopkheaaSum
namespace Go.Proofs.Ytfodboooopkheaa
open Go.RowKit

theorem range_BT {V : World} {g : Nat} (b : BT) (h : Blk V g 31 b.cells) : V.rangeAt g 3 (b.whole.map (Value.int .u8)) := fun j v hj => by
  rw [h.cell]
  rw [List.getElem?_map] at hj
  cases h1 : b.whole[j]? with
  | none => rw [h1] at hj; cases hj
  | some a =>
    rw [h1] at hj
    injection hj with hj
    subst hj
    simp [BT.cells, Nat.add_comm 3 j, h1]
def T13 (bd gw g from_ room size cap : Nat) (b : BT) (_F : Array Value) (X : List Value) (ne : Bool) (L : Nat → Bool) : Array Value :=
  #[.pointer (some ⟨bd, 0, none⟩), .int .i64 (from_ : Int), .int .i64 (room : Int), .agg b.cells, undef, undef, undef, .pointer (some ⟨gw, 0, none⟩), .int .i64 0, .slice (some ⟨g, 0, none⟩) size cap, .int .i64 0,
    .tuple #[.slice (some ⟨g, 0, none⟩) size cap, .int .i64 0], .pointer (some ⟨bd, 0, none⟩), .int .i64 (from_ : Int), .int .i64 (room : Int), .pointer (some ⟨gw, 2, none⟩), .int .i64 (size : Int),
    .tuple #[.slice (some ⟨g, 0, none⟩) size cap, .int .i64 0], .slice (some ⟨g, 0, none⟩) size cap, .int .i64 0, .bool false, .int .i64 0, .bool false, undef,
    bif L 6 then .bool ne else undef, bif L 0 then .slice (some ⟨g, 0, none⟩) size cap else undef, undef, undef, bif L 3 then .pointer (some ⟨gw, 3, none⟩) else undef, bif L 4 then .agg X.toArray else undef, bif L 5 then .bool ne else undef]
def row13 (g size cap : Nat) : Obj := .cells #[.slice (some ⟨g, 0, none⟩) size cap] 22
def V13 (g size cap : Nat) (W : World) (L : Nat → Bool) : World := bif L 1 then W.alloc (row13 g size cap) else W
def I13 (bd gw g from_ room size cap : Nat) (b : BT) (F : Array Value) (X : List Value) (ne : Bool) (W : World) (L : Nat → Bool) (a : Act) (w : World) : Prop :=
  a = ⟨((T13 bd gw g from_ room size cap b F X ne L).setIfInBounds 26 (bif L 1 then .slice (some ⟨W.heap.size, 0, none⟩) 1 1 else undef)).setIfInBounds 27 (bif L 2 then .agg F else undef), []⟩
    ∧ (L 2 = false → w = V13 g size cap W L) ∧ (L 2 = true → L 1 = true ∧ Below (W.heap.size + 1) (W.alloc (row13 g size cap)) w)
theorem wp_neq28 {P : Program} {o : Oper} {a : Act} {w : World} {K : Act → World → Prop} {Q : Exit → Act → World → Prop} (x y : Operand) (ho : o.op = .binOp .neq 28 x y 28) (vx vy : Value) (hx : a.eval x = vx) (hy : a.eval y = vy) (r : Value)
    (hg : (eqGuard .neq 28 x y vx vy).run P w = .ok () w) (hr : (binOp .neq 28 vx vy).run P w = .ok r w) (h : K (a.put o.dst r) w) : o.wp P a w K Q := by
  unfold Oper.wp execOp
  simp only [ho, hx, hy, Sem.run_bind, Sem.run_pure, Result.andThen_ok, hg, hr]
  exact h
def wholeE (s : DS) (from_ : Nat) (b : BT) (size : Nat) : Int := if shaF (s.from_ (64 * from_) size) = b.whole then 0 else 80
set_option maxRecDepth 100000 in
set_option maxHeartbeats 2000000 in
theorem whole_any (p : DP) (s : DS) (from_ room size : Nat) (b : BT) (w : World) (h : Disk w p s) (hd : s.down = false) (h1 : from_ + room ≤ s.n) (h2 : size ≤ 64 * room) (h3 : 0 < size) (hbs : b.size = (size : Int)) (hbl : b.whole.length = 32) :
    Calls Try.prog 13 #[.pointer (some ⟨p.bd, 0, none⟩), .int .i64 (from_ : Int), .int .i64 (room : Int), .agg b.cells] w fun e w' => e = .returned (.int .i64 (wholeE s from_ b size)) ∧ Below w.heap.size w w' := by
  have HB : Below w.heap.size w (w.alloc (.cells b.cells 31)) := (Below.refl _ _).alloc (Nat.le_refl _) _
  have hN := h.nmax
  have H := Lib.hid (h.below HB)
  have D := Lib.hid h
  have BB := Lib.hid HB
  have LT0 := Lib.hid (show w.heap.size < (w.alloc (.cells b.cells 31)).heap.size by rw [World.size_alloc]; exact Nat.lt_succ_self _)
  have X0 := Lib.hid (Blk.new w 31 b.cells)
  have c0 : (w.alloc (.cells b.cells 31)).cell? ⟨w.heap.size, 2, none⟩ = some (.int .i64 (size : Int)) := by rw [X0.out.cell, ← hbs]; rfl
  have GE := Lib.hid (get_ok p s from_ room size _ H.out hd h1 h2 h3)
  obtain ⟨l, hl⟩ : ∃ l, l = s.from_ (64 * from_) size := ⟨_, rfl⟩
  have hll : l.length = size := by rw [hl, len_from]
  have hlb : Byt l := by rw [hl]; exact byt_from h _ _ (by omega)
  have HL := Lib.hid hl
  have BL := Lib.hid hbl
  have LB := Lib.hid hlb
  clear h HB hl hbs hbl hlb
  go_enter Try.func13, Try.ntmps13
  go_wp2_with (first
    | (go_at_call 42; refine GE.out.mono ?_; rintro e w2 ⟨g, cap, rfl, b2, hg1, hg2, hcap, hcells⟩; have B2 := Lib.hid b2; have CE := Lib.hid hcells; clear b2 hcells c0))
  have X2 := Lib.hid (show Blk w2 w.heap.size 31 b.cells from (B2.out.block _ LT0.out).trans X0.out)
  have hW2 : w.heap.size < w2.heap.size := Nat.lt_of_lt_of_le LT0.out B2.out.size
  obtain ⟨X, hX⟩ : ∃ X : List Value, X = b.whole.map (Value.int .u8) := ⟨_, rfl⟩
  have hXl : X.length = 32 := by rw [hX]; simpa using BL.out
  have hXi : (Try.prog.info? 28).map (·.size) = some X.length := by rw [hXl]; exact size28
  have hX1 : ∀ v ∈ X, v.oneCell' = true := by rw [hX]; exact one_map _
  have hu28 := Try.underlying28
  have R0 := Lib.hid (show w2.drew.rangeAt w.heap.size 3 X by rw [hX]; exact range_BT b X2.out.drew)
  have R1 := Lib.hid (show (w2.drew.alloc (.cells #[.slice (some ⟨g, 0, none⟩) size cap] 22)).rangeAt w.heap.size 3 X by rw [hX]; exact range_BT b (X2.out.drew.alloc _))
  have RX := Lib.hid (show ∀ V, Below (w2.heap.size + 1) (w2.drew.alloc (.cells #[.slice (some ⟨g, 0, none⟩) size cap] 22)) V → V.rangeAt w.heap.size 3 X from fun V hV => by
    rw [hX]; exact range_BT b ((hV.block _ (by omega)).trans (X2.out.drew.alloc _)))
  have HX := Lib.hid hX
  have SU := Lib.hid (show Calls Try.prog 10 #[.slice (some ⟨w2.heap.size, 0, none⟩) 1 1] (w2.drew.alloc (.cells #[.slice (some ⟨g, 0, none⟩) size cap] 22)) fun e w' => e = .returned (.agg (U8 (shaF l))) ∧ Below (w2.heap.size + 1) (w2.drew.alloc (.cells #[.slice (some ⟨g, 0, none⟩) size cap] 22)) w' by
    have := sum_any w2.heap.size 1 22 #[.slice (some ⟨g, 0, none⟩) size cap] ⟨g, 0, none⟩ cap l (w2.drew.alloc (.cells #[.slice (some ⟨g, 0, none⟩) size cap] 22)) (Blk.new w2.drew 22 _) (by rw [hll]; rfl) (by omega) LB.out
      (fun j u hj => by
        rw [List.getElem?_map] at hj
        cases h1 : l[j]? with
        | none => rw [h1] at hj; cases hj
        | some a =>
          rw [h1] at hj
          injection hj with hj
          subst hj
          obtain ⟨hjl, ha⟩ := List.getElem?_eq_some_iff.1 h1
          rw [add_at, Nat.zero_add, World.cell?_of_block (w := w2.drew) (Below.heap_alloc w2.drew _ _ hg2)]
          have := CE.out j (by omega)
          rw [show w2.drew.cell? ⟨g, j, none⟩ = w2.cell? ⟨g, j, none⟩ from rfl, this, ← ha]
          congr 1
          congr 1
          have e := HL.out
          simp only [e, DS.from_, List.getElem_map, List.getElem_range]) (by rw [World.size_alloc]; exact Nat.lt_succ_of_lt hg2)
    rw [World.size_alloc] at this
    exact this)
  have hne : (binOp .neq 28 (.agg (U8 (shaF l))) (.agg X.toArray) : Sem Value) = binOp .neq 28 (.agg ((shaF l).map (Value.int .u8)).toArray) (.agg (b.whole.map (Value.int .u8)).toArray) := by rw [hX]; rfl
  obtain ⟨i0, hi0, hz0, hz1, hz2⟩ := info_parts info5
  have hc5 : Try.prog.cellsOf 5 = 1 := by kernel_rfl
  have hFl : (shaF l).length = 32 := by unfold shaF; exact len_digest _
  clear hX
  refine wp_region_flow_plain (by kernel_rfl) (by kernel_rfl) (by kernel_rfl) (I13 p.bd w.heap.size g from_ room size cap b (U8 (shaF l)) X (!decide (shaF l = b.whole)) w2.drew) ⟨rfl, fun _ => rfl, fun h => by cases h⟩ ?_ ?_
  · intro i o ho L a w' hI hLi hdep
    obtain ⟨rfl, hV, hW⟩ := hI
    match i, ho with
    | 0, ho =>
      simp at ho
      subst ho
      unfold T13
      go_simp
      exact ⟨by simp [T13, setL, *], by simpa [V13, setL] using hV, by simpa [setL] using hW⟩
    | 1, ho =>
      simp at ho
      subst ho
      have d0 : L 0 = true := hdep ⟨0, .data⟩ (by simp) rfl
      have hl2 : L 2 = false := by
        cases h2 : L 2 with
        | false => rfl
        | true => have := (hW h2).1; rw [hLi] at this; cases this
      obtain rfl := hV hl2
      have hv : V13 g size cap w2.drew L = w2.drew := by simp [V13, hLi]
      rw [hv]
      unfold T13
      go_simp
      exact ⟨by simp [T13, setL, *], fun _ => by simp [V13, setL, row13]; rfl, fun h => by simp [setL, hl2] at h⟩
    | 2, ho =>
      simp at ho
      subst ho
      have d1 : L 1 = true := hdep ⟨1, .data⟩ (by simp) rfl
      obtain rfl := hV hLi
      have hv : V13 g size cap w2.drew L = w2.drew.alloc (.cells #[.slice (some ⟨g, 0, none⟩) size cap] 22) := by simp [V13, d1, row13]
      rw [hv]
      unfold T13
      go_simp
      go_at_call 10
      refine SU.out.mono ?_
      rintro e w3 ⟨rfl, b3⟩
      exact ⟨by simp [T13, setL, *], fun h => by simp [setL] at h, fun _ => ⟨by simp [setL, d1], b3⟩⟩
    | 3, ho =>
      simp at ho
      subst ho
      unfold T13
      go_simp
      exact ⟨by simp [T13, setL, *], by simpa [V13, setL] using hV, by simpa [setL] using hW⟩
    | 4, ho =>
      simp at ho
      subst ho
      have d3 : L 3 = true := hdep ⟨3, .data⟩ (by simp) rfl
      have hR : w'.rangeAt w.heap.size 3 X := by
        cases h2 : L 2 with
        | true => exact RX.out _ (hW h2).2
        | false =>
          rw [hV h2]
          unfold V13
          cases L 1 with
          | true => exact R1.out
          | false => exact R0.out
      refine wp_load_mid 28 _ rfl w.heap.size 3 (by simp [Act.eval, T13, d3]) X _ hR hu28 rfl hXi ?_
      exact ⟨by simp [Act.put, T13, setL, *], by simpa [V13, setL] using hV, by simpa [setL] using hW⟩
    | 5, ho =>
      simp at ho
      subst ho
      have d2 : L 2 = true := hdep ⟨2, .data⟩ (by simp) rfl
      have d4 : L 4 = true := hdep ⟨4, .data⟩ (by simp) rfl
      have hr := run_neq_ints (P := Try.prog) (w := w') (k := .u8) Try.underlying28 Try.underlying5 hi0 hc5 (shaF l) b.whole hFl BL.out
      rw [← hne] at hr
      refine wp_neq28 (.tmp 27) (.tmp 29) rfl (.agg (U8 (shaF l))) (.agg X.toArray) (by simp [Act.eval, T13, d2]) (by simp [Act.eval, T13, d4]) _ (run_eqGuard_agg _ _ _ _ _ _ _ Try.eqGuardType28) hr ?_
      exact ⟨by simp [Act.put, T13, setL, *], by simpa [V13, setL] using hV, by simpa [setL] using hW⟩
    | 6, ho =>
      simp at ho
      subst ho
      have d5 : L 5 = true := hdep ⟨5, .data⟩ (by simp) rfl
      unfold T13
      go_simp
      exact ⟨by simp [T13, setL, *], by simpa [V13, setL] using hV, by simpa [setL] using hW⟩
    | n + 7, ho => simp at ho
  · intro L a w' hI hall
    obtain ⟨rfl, hV, hW⟩ := hI
    have h0 := hall 0 (by decide)
    have h1 := hall 1 (by decide)
    have h2 := hall 2 (by decide)
    have h3 := hall 3 (by decide)
    have h4 := hall 4 (by decide)
    have h5 := hall 5 (by decide)
    have h6 := hall 6 (by decide)
    have BF := Lib.hid (hW h2).2
    clear hV hW
    unfold T13
    simp only [h0, h1, h2, h3, h4, h5, h6, cond_true]
    have BF2 := Lib.hid (show Below w.heap.size w w' from by
      have e1 : Below w.heap.size w w2 := BB.out.trans (B2.out.mono BB.out.size)
      have e2 : Below w.heap.size w (w2.drew.alloc (row13 g size cap)) := (Kept.below (F := fun _ => False) e1).drew.alloc _ |>.toBelow
      exact e2.trans (BF.out.mono (Nat.le_succ_of_le e1.size)))
    clear hne hFl hXi hX1 hu28
    by_cases hF : shaF l = b.whole
    · have WE := Lib.hid (show wholeE s from_ b size = 0 by unfold wholeE; rw [← HL.out, if_pos hF])
      simp only [hF, decide_true, Bool.not_true]
      go_frame
      go_wp2_with fail
      go_ret
      exact ⟨by rw [WE.out]; rfl, BF2.out⟩
    · have WE := Lib.hid (show wholeE s from_ b size = 80 by unfold wholeE; rw [← HL.out, if_neg hF])
      simp only [hF, decide_false, Bool.not_false]
      go_frame
      go_wp2_with fail
      go_ret
      exact ⟨by rw [WE.out]; rfl, BF2.out⟩
end Go.Proofs.Ytfodboooopkheaa
