/- image.Start: what a machine starts. -/
import Derived.Test.YtfodboooopkheaaRead
namespace Go.Proofs.Ytfodboooopkheaa
open Go.RowKit

/-- the better of the first k boot blocks -/
def bestN (s : DS) (at_ : Int) : Nat → BT × Int
  | 0 => (BT.zero, 0)
  | k + 1 => if (bestN s at_ k).2 < (readB (s.blk (at_ + k))).2 then readB (s.blk (at_ + k)) else bestN s at_ k
theorem bestN_succ (s : DS) (at_ : Int) (k : Nat) : bestN s at_ (k + 1) = if (bestN s at_ k).2 < (readB (s.blk (at_ + k))).2 then readB (s.blk (at_ + k)) else bestN s at_ k := rfl
theorem BT.zero_wf : BT.zero.wf := ⟨by decide, by decide, by decide, by decide, by decide, by decide, by simp [BT.zero], Byt.replicate 32⟩
theorem readB_wf (x : List Int) (hx : x.length = 64) (hb : Byt x) : (readB x).1.wf ∧ 0 ≤ (readB x).2 ∧ (readB x).2 ≤ 1099511627776 := by
  unfold readB
  split
  · rename_i h
    have h9 := numL_bd 8 ((x.drop 9).take 8) (by simp; omega) ((hb.drop 9).take 8)
    have h17 := numL_bd 4 ((x.drop 17).take 4) (by simp; omega) ((hb.drop 17).take 4)
    have h0 := numL_bd 8 (x.take 8) (by simp; omega) (hb.take 8)
    have h8 : x.getD 8 0 = x[8] := by simp [List.getD_eq_getElem?_getD, hx]
    have hx8 := hb.get (show 8 < x.length by omega)
    refine ⟨⟨?_, ?_, ?_, ?_, ?_, ?_, ?_, (hb.drop 21).take 32⟩, h0.1, h.1⟩
    · show _ ≤ x.getD 8 0; rw [h8]; omega
    · show x.getD 8 0 ≤ _; rw [h8]; omega
    · show _ ≤ min _ _; omega
    · show min _ _ ≤ _; omega
    · show _ ≤ numL _; omega
    · show numL _ ≤ _; omega
    · show ((x.drop 21).take 32).length = 32; simp; omega
  · exact ⟨BT.zero_wf, by decide, by decide⟩
theorem blk_ok {w : World} {p : DP} {s : DS} (h : Disk w p s) (n : Int) (h0 : 0 ≤ n) (h1 : n < (s.n : Int)) : (s.blk n).length = 64 ∧ Byt (s.blk n) := by
  unfold DS.blk
  cases hg : getI s.fresh n with
  | none =>
    have := h.len
    exact ⟨by simp; omega, (h.byt.drop _).take 64⟩
  | some l =>
    have := h.keys _ (mem_of_getI hg)
    exact ⟨this.2.2.1, this.2.2.2⟩
theorem bestN_wf {w : World} {p : DP} {s : DS} (h : Disk w p s) (at_ : Int) (h0 : 0 ≤ at_) : ∀ k : Nat, at_ + k ≤ (s.n : Int) → (bestN s at_ k).1.wf ∧ 0 ≤ (bestN s at_ k).2 ∧ (bestN s at_ k).2 ≤ 1099511627776
  | 0, _ => ⟨BT.zero_wf, Int.le_refl 0, by show (0 : Int) ≤ _; omega⟩
  | k + 1, hk => by
    have ih := bestN_wf h at_ h0 k (by omega)
    obtain ⟨h2, h3⟩ := blk_ok h (at_ + k) (by omega) (by omega)
    unfold bestN
    split
    · exact readB_wf _ h2 h3
    · exact ih
def BestAt (w : World) (_p : DP) (s : DS) (at_ : Int) (k : Nat) (wr : World) : Prop :=
  Blk wr (w.heap.size + 1) 31 (bestN s at_ k).1.cells ∧ Blk wr w.heap.size 31 BT.zero.cells ∧ Below w.heap.size w wr ∧ w.heap.size + 2 ≤ wr.heap.size
theorem results_cell_tmp2 {P : Program} {fn : Func} {p q r : Tmp} {ty : TypeId} (h : fn.results = #[.cell p ty, .tmp q, .tmp r]) (tmps : Array Value) (w : World) (g : Nat) (t : TypeId) (cs : Array Value) (d : TypeDesc)
    (hp : tmps.getD p undef = .pointer (some ⟨g, 0, none⟩)) (hg : Blk w g t cs)
    (hu : P.underlying ty = some d) (hd : (match d with | .struct _ | .array _ _ => true | _ => false) = true) (hi : (P.info? ty).map (·.size) = some cs.size) :
    (results fn tmps).run P w = .ok (.tuple #[.agg cs, tmps.getD q undef, tmps.getD r undef]) w := by
  have hp' : tmps[p]?.getD undef = .pointer (some ⟨g, 0, none⟩) := by simpa using hp
  simp [results, h, hp', asAddr, run_loadVar_row w g t ty cs (0, 0) d hg hu hd hi]
/-- what Start answers -/
def startV (s : DS) (at_ : Int) : Value :=
  if (bestN s at_ 2).2 = 0 then .tuple #[.agg BT.zero.cells, .int .i64 0, .int .i64 81] else .tuple #[.agg (bestN s at_ 2).1.cells, .int .i64 (bestN s at_ 2).2, .int .i64 0]
set_option maxRecDepth 100000 in
set_option maxHeartbeats 1000000 in
theorem start_any (p : DP) (s : DS) (at_ : Int) (w : World) (h : Disk w p s) (hd : s.down = false) (h0 : 0 ≤ at_) (h1 : at_ + 2 ≤ (s.n : Int)) :
    Calls Try.prog 14 #[.pointer (some ⟨p.bd, 0, none⟩), .int .i64 at_] w fun e w' => e = .returned (startV s at_) ∧ Below w.heap.size w w' := by
  have H := Lib.hid h
  have hN := h.nmax
  clear h
  go_enter Try.func14, Try.ntmps14
  go_wp2_with (first
    | (refine wpList_new rfl 31 rfl _ run_zero31 w.heap.size rfl ?_; intro w1 g0 hs1 hb1; have G1 := Lib.hid (show Blk w1 w.heap.size 31 BT.zero.cells from g0); have B1 := Lib.hid hb1; clear g0 hb1)
    | (go_at_call 48; refine (area_yes p s at_ 2 _ (H.out.below B1.out) h0 (by omega) h1).mono ?_; rintro e w' ⟨rfl, rfl⟩)
    | (refine wpList_new rfl 31 rfl _ run_zero31 (w.heap.size + 1) hs1 ?_; intro w2 g0 hs2 hb2; have G2 := Lib.hid (show Blk w2 (w.heap.size + 1) 31 BT.zero.cells from g0); have B2 := Lib.hid hb2; clear g0 hb2))
  have hI : BestAt w p s at_ 0 w2 := ⟨G2.out, (B2.out.block _ (Nat.lt_succ_self _)).trans G1.out, B1.out.trans (B2.out.mono (Nat.le_succ _)), by omega⟩
  have II := Lib.hid hI
  clear hI
  go_loopw [8, 19] (fun c i wr => ∃ k : Nat, k ≤ 2 ∧ i = .int .i64 k ∧ c = .int .i64 (bestN s at_ k).2 ∧ BestAt w p s at_ k wr) (fun _ i _ => 2 - (intOf i).toNat)
  case atStart => exact ⟨0, by omega, rfl, rfl, II.out⟩
  case round =>
    obtain ⟨k, hk, rfl, rfl, hI⟩ := hrel
    obtain ⟨i1, i2, i3, i4⟩ := hI
    have D := Lib.hid (H.out.below i3)
    have I1 := Lib.hid i1
    have I2 := Lib.hid i2
    have I3 := Lib.hid i3
    clear i1 i2 i3 II
    by_cases hlt : k < 2
    · obtain ⟨hx1, hx2⟩ := blk_ok D.out (at_ + k) (by omega) (by omega)
      obtain ⟨⟨rb, rn⟩, hr⟩ : ∃ r, r = readB (s.blk (at_ + k)) := ⟨_, rfl⟩
      obtain ⟨hwf, hn0, hn1⟩ := readB_wf _ hx1 hx2
      rw [← hr] at hwf hn0 hn1
      have hbw := (bestN_wf D.out at_ h0 k (by omega)).1
      have RD := Lib.hid (show ∀ V, Calls Try.prog 51 #[.agg (U8 (s.blk (at_ + k)))] V fun e w' => e = .returned (.tuple #[.agg rb.cells, .int .i64 rn]) ∧ Below V.heap.size V w' from fun V => by
        have := read_any (s.blk (at_ + k)) V hx1 hx2
        rwa [← hr] at this)
      have XL := Lib.hid hx1
      have XS := Lib.hid (show (Try.prog.info? 38).map (·.size) = some (U8 (s.blk (at_ + k))).size by rw [size_U8, hx1]; exact size38)
      have hrl : rb.whole.length = 32 := hwf.2.2.2.2.2.2.1
      have hbl : (bestN s at_ k).1.whole.length = 32 := hbw.2.2.2.2.2.2.1
      have RS := Lib.hid (show (Try.prog.info? 31).map (·.size) = some rb.cells.size by rw [size_BT _ hrl]; exact size31)
      have RS0 := Lib.hid (show rb.cells.size = BT.zero.cells.size by rw [size_BT _ hrl]; rfl)
      have RS1 := Lib.hid (size_BT _ hrl)
      have SB := Lib.hid (size_BT _ hbl)
      have R := Lib.hid hr
      -- behind all that a round does the best one so far, and the result's variable, lie as they did
      have E8 : ∀ w3 w4 w5 w6 w7 w8 : World, Below wr.heap.size wr w3 → Below w3.heap.size w3 w4 → Only w4 w5 w3.heap.size → Below w5.heap.size w5 w6 → Below w6.heap.size w6 w7 → Only w7 w8 w6.heap.size →
          Blk w8 (w.heap.size + 1) 31 (bestN s at_ k).1.cells ∧ Blk w8 w.heap.size 31 BT.zero.cells ∧ Below wr.heap.size wr w8 := by
        intro w3 w4 w5 w6 w7 w8 b3 b4 o5 b6 b7 o8
        have e4 : Below wr.heap.size wr w4 := b3.trans (b4.mono b3.size)
        have e5 : Below wr.heap.size wr w5 := (Only.kept (F := fun _ => False) (Kept.below e4) o5 (.inr b3.size)).toBelow
        have e6 : Below wr.heap.size wr w6 := e5.trans (b6.mono e5.size)
        have e7 : Below wr.heap.size wr w7 := e6.trans (b7.mono e6.size)
        have e8 : Below wr.heap.size wr w8 := (Only.kept (F := fun _ => False) (Kept.below e7) o8 (.inr e6.size)).toBelow
        exact ⟨(e8.block _ I1.out.lt).trans I1.out, (e8.block _ I2.out.lt).trans I2.out, e8⟩
      have HE8 := Lib.hid E8
      clear hwf hbw hrl hbl hx1 hx2 E8 hr
      have hb0 : 0 ≤ (bestN s at_ k).2 := (bestN_wf D.out at_ h0 k (by omega)).2.1
      obtain ⟨cn, hcn⟩ : ∃ cn, cn = (bestN s at_ k).2 := ⟨_, rfl⟩
      have CN := Lib.hid hcn
      rw [← hcn] at hb0 ⊢
      clear hcn
      by_cases hcmp : cn < rn
      · go_wp2_with (first
        | (go_at_call 15; refine (read_ok p s (at_ + k) wr D.out hd (by omega) (by omega)).mono ?_; rintro e w3 ⟨rfl, b3⟩; have B3 := Lib.hid b3; clear b3)
        | (refine wpList_new rfl 38 rfl _ run_zero38 w3.heap.size rfl ?_; intro w4 g0 hs4 hb4; have G4 := Lib.hid (show Blk w4 w3.heap.size 38 (U8 Z64) from g0); have B4 := Lib.hid hb4; clear g0 hb4)
        | (refine wpList_store_blk rfl 38 _ _ rfl w3.heap.size 38 _ (U8 (s.blk (at_ + k))) rfl rfl G4.out (by rw [size_U8, size_U8, XL.out, len_Z64]) XS.out (one_U8 _) ?_; intro w5 g5 ho5; have G5 := Lib.hid g5; have O5 := Lib.hid ho5; clear g5 ho5)
        | (refine wpList_load_row rfl 38 _ rfl w3.heap.size rfl 38 (U8 (s.blk (at_ + k))) (0, 0) _ G5.out Try.underlying38 rfl XS.out ?_)
        | (go_at_call 51; with_reducible refine (RD.out w5).mono ?_; rintro e w6 ⟨rfl, b6⟩; have B6 := Lib.hid b6; clear b6)
        | (refine wpList_new rfl 31 rfl _ run_zero31 w6.heap.size rfl ?_; intro w7 g0 hs7 hb7; have G7 := Lib.hid (show Blk w7 w6.heap.size 31 BT.zero.cells from g0); have B7 := Lib.hid hb7; clear g0 hb7)
        | (refine wpList_store_blk rfl 31 _ _ rfl w6.heap.size 31 _ rb.cells rfl rfl G7.out RS0.out RS.out (one_BT _) ?_; intro w8 g8 ho8; have G8 := Lib.hid g8; have O8 := Lib.hid ho8; clear g8 ho8)
        | (refine wpList_load_row rfl 31 _ rfl w6.heap.size rfl 31 rb.cells (0, 0) _ G8.out Try.underlying31 rfl RS.out ?_)
        | (refine wpList_store_blk rfl 31 _ _ rfl (w.heap.size + 1) 31 _ rb.cells rfl rfl (HE8.out w3 w4 w5 w6 w7 w8 B3.out B4.out O5.out B6.out B7.out O8.out).1 (RS1.out.trans SB.out.symm) RS.out (one_BT _) ?_; intro w9 g9 ho9; have G9 := Lib.hid g9; have O9 := Lib.hid ho9; clear g9 ho9))
        go_roundw
        case rel =>
          have e := HE8.out w3 w4 w5 w6 w7 w8 B3.out B4.out O5.out B6.out B7.out O8.out
          have eb : bestN s at_ (k + 1) = (rb, rn) := by rw [bestN_succ, ← R.out, ← CN.out]; exact if_pos hcmp
          have k9 : Below wr.heap.size wr w9 ∨ True := .inr trivial
          refine ⟨k + 1, by omega, by go_num, by rw [eb], ?_⟩
          unfold BestAt
          rw [eb]
          have hlt9 : w.heap.size ≠ w.heap.size + 1 := by omega
          exact ⟨G9.out, O9.out.blk e.2.1 hlt9, (Only.kept (F := fun _ => False) (Kept.below (I3.out.trans (e.2.2.mono I3.out.size))) O9.out (.inr (Nat.le_succ _))).toBelow, by rw [O9.out.size]; have := e.2.2.size; omega⟩
        case measure => simp [intOf]; omega
      · go_wp2_with (first
        | (go_at_call 15; refine (read_ok p s (at_ + k) wr D.out hd (by omega) (by omega)).mono ?_; rintro e w3 ⟨rfl, b3⟩; have B3 := Lib.hid b3; clear b3)
        | (refine wpList_new rfl 38 rfl _ run_zero38 w3.heap.size rfl ?_; intro w4 g0 hs4 hb4; have G4 := Lib.hid (show Blk w4 w3.heap.size 38 (U8 Z64) from g0); have B4 := Lib.hid hb4; clear g0 hb4)
        | (refine wpList_store_blk rfl 38 _ _ rfl w3.heap.size 38 _ (U8 (s.blk (at_ + k))) rfl rfl G4.out (by rw [size_U8, size_U8, XL.out, len_Z64]) XS.out (one_U8 _) ?_; intro w5 g5 ho5; have G5 := Lib.hid g5; have O5 := Lib.hid ho5; clear g5 ho5)
        | (refine wpList_load_row rfl 38 _ rfl w3.heap.size rfl 38 (U8 (s.blk (at_ + k))) (0, 0) _ G5.out Try.underlying38 rfl XS.out ?_)
        | (go_at_call 51; with_reducible refine (RD.out w5).mono ?_; rintro e w6 ⟨rfl, b6⟩; have B6 := Lib.hid b6; clear b6)
        | (refine wpList_new rfl 31 rfl _ run_zero31 w6.heap.size rfl ?_; intro w7 g0 hs7 hb7; have G7 := Lib.hid (show Blk w7 w6.heap.size 31 BT.zero.cells from g0); have B7 := Lib.hid hb7; clear g0 hb7)
        | (refine wpList_store_blk rfl 31 _ _ rfl w6.heap.size 31 _ rb.cells rfl rfl G7.out RS0.out RS.out (one_BT _) ?_; intro w8 g8 ho8; have G8 := Lib.hid g8; have O8 := Lib.hid ho8; clear g8 ho8)
        | (refine wpList_load_row rfl 31 _ rfl w6.heap.size rfl 31 rb.cells (0, 0) _ G8.out Try.underlying31 rfl RS.out ?_)
        | (refine wpList_store_blk rfl 31 _ _ rfl (w.heap.size + 1) 31 _ rb.cells rfl rfl (HE8.out w3 w4 w5 w6 w7 w8 B3.out B4.out O5.out B6.out B7.out O8.out).1 (RS1.out.trans SB.out.symm) RS.out (one_BT _) ?_; intro w9 g9 ho9; have G9 := Lib.hid g9; have O9 := Lib.hid ho9; clear g9 ho9))
        go_roundw
        case rel =>
          have e := HE8.out w3 w4 w5 w6 w7 w8 B3.out B4.out O5.out B6.out B7.out O8.out
          have eb : bestN s at_ (k + 1) = bestN s at_ k := by rw [bestN_succ, ← R.out, ← CN.out]; exact if_neg (by show ¬ (cn < rn); omega)
          refine ⟨k + 1, by omega, by go_num, by rw [eb, CN.out], ?_⟩
          unfold BestAt
          rw [eb]
          exact ⟨e.1, e.2.1, I3.out.trans (e.2.2.mono I3.out.size), by have := e.2.2.size; omega⟩
        case measure => simp [intOf]; omega
    · have hk2 : k = 2 := by omega
      subst hk2
      have hwf := bestN_wf D.out at_ h0 2 (by omega)
      obtain ⟨br, hbr⟩ : ∃ br, br = bestN s at_ 2 := ⟨_, rfl⟩
      have hbl : br.1.whole.length = 32 := by rw [hbr]; exact hwf.1.2.2.2.2.2.2.1
      have E := Lib.hid hbr
      have SB := Lib.hid (show br.1.cells.size = BT.zero.cells.size by rw [size_BT _ hbl]; rfl)
      have SZ := Lib.hid (show (Try.prog.info? 31).map (·.size) = some br.1.cells.size by rw [size_BT _ hbl]; exact size31)
      have B1' := Lib.hid (show Blk wr (w.heap.size + 1) 31 br.1.cells by rw [hbr]; exact I1.out)
      rw [← hbr]
      clear hbr hbl hwf
      by_cases hz : br.2 = 0
      · go_wp2_with (first
        | (refine wpList_store_blk rfl 31 _ _ rfl w.heap.size 31 _ BT.zero.cells rfl rfl I2.out rfl size31 (one_BT _) ?_; intro w9 g9 ho9; have G9 := Lib.hid g9; have O9 := Lib.hid ho9; clear g9 ho9))
        refine bodyPost_ret (results_cell_tmp2 rfl _ _ w.heap.size 31 BT.zero.cells _ rfl G9.out Try.underlying31 rfl size31) rfl ⟨?_, ?_⟩
        · unfold startV; rw [if_pos (by rw [← E.out]; exact hz)]; rfl
        · exact (Only.kept (F := fun _ => False) (Kept.below I3.out) O9.out (.inr (Nat.le_refl _))).toBelow
      · go_wp2_with (first
        | (refine wpList_load_row rfl 31 _ rfl (w.heap.size + 1) rfl 31 br.1.cells (0, 0) _ B1'.out Try.underlying31 rfl SZ.out ?_)
        | (refine wpList_store_blk rfl 31 _ _ rfl w.heap.size 31 _ br.1.cells rfl rfl I2.out SB.out SZ.out (one_BT _) ?_; intro w9 g9 ho9; have G9 := Lib.hid g9; have O9 := Lib.hid ho9; clear g9 ho9))
        refine bodyPost_ret (results_cell_tmp2 rfl _ _ w.heap.size 31 br.1.cells _ rfl G9.out Try.underlying31 rfl SZ.out) rfl ⟨?_, ?_⟩
        · unfold startV; rw [if_neg (by rw [← E.out]; exact hz), ← E.out]; rfl
        · exact (Only.kept (F := fun _ => False) (Kept.below I3.out) O9.out (.inr (Nat.le_refl _))).toBelow
end Go.Proofs.Ytfodboooopkheaa
