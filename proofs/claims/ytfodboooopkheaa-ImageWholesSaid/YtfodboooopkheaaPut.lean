/- image.Put: lays bytes into an area. -/
import Derived.Test.YtfodboooopkheaaPoint
namespace Go.Proofs.Ytfodboooopkheaa
open Go.RowKit

/-- the byte at a place of the whole disk, as a read shows it -/
def DS.look (s : DS) (x : Nat) : Int := (s.blk ((x / 64 : Nat) : Int)).getD (x % 64) 0
/-- a disk behind bytes that were laid from a place on -/
structure Laid (s s' : DS) (at_ : Nat) (l : List Int) : Prop where
  n : s'.n = s.n
  down : s'.down = s.down
  look : ∀ x, x < 64 * s.n → s'.look x = if at_ ≤ x ∧ x < at_ + l.length then l.getD (x - at_) 0 else s.look x
theorem Laid.nil (s : DS) (at_ : Nat) : Laid s s at_ [] := ⟨rfl, rfl, fun x _ => by rw [if_neg (by simp)]⟩
theorem getI_putI {α : Type} (f : List (Int × α)) (n m : Int) (l : α) : getI (putI f n l) m = if m = n then some l else getI f m := by
  induction f with
  | nil => simp only [putI, getI]
  | cons q r ih =>
    simp only [putI]
    split
    · rename_i h
      simp only [getI]
      by_cases hm : m = n
      · subst hm; simp [h]
      · have : ¬ m = q.1 := by rw [← h]; exact hm
        rw [if_neg hm, if_neg this, if_neg this]
    · rename_i h
      simp only [getI, ih]
      by_cases hm : m = n
      · subst hm; simp [h]
      · simp [hm]
theorem blk_put (s : DS) (n m : Int) (l : List Int) : (s.put n l).blk m = if m = n then l else s.blk m := by
  unfold DS.blk DS.put
  simp only [getI_putI]
  split <;> simp
theorem over_getD (L cs : List Int) (o x : Nat) (h : o + cs.length ≤ L.length) (hx : x < L.length) : (over L o cs).getD x 0 = if o ≤ x ∧ x < o + cs.length then cs.getD (x - o) 0 else L.getD x 0 := by
  unfold over
  simp only [List.getD_eq_getElem?_getD, List.getElem?_append, List.length_take, List.getElem?_take, List.getElem?_drop]
  by_cases h1 : o ≤ x
  · by_cases h2 : x < o + cs.length
    · rw [if_neg (by omega), if_pos (by omega), if_pos ⟨h1, h2⟩, Nat.min_eq_left (by omega)]
    · rw [if_neg (by omega), if_neg (by omega), if_neg (by omega)]
      congr 2; omega
  · rw [if_pos (by omega), if_pos (by omega), if_neg (by omega)]
theorem Laid.step {s s1 : DS} {at_ : Nat} {l cs : List Int} {n o : Nat} (h : Laid s s1 at_ l) (ho : 64 * n + o = at_ + l.length) (ho2 : o < 64) (hc : o + cs.length ≤ 64) (hn : n < s.n) (hl : (s1.blk (n : Int)).length = 64) :
    Laid s (s1.put (n : Int) (over (s1.blk (n : Int)) o cs)) at_ (l ++ cs) := by
  refine ⟨h.n, h.down, fun x hx => ?_⟩
  have hm : x % 64 < 64 := Nat.mod_lt _ (by omega)
  have hdm := Nat.div_add_mod x 64
  have hold := h.look x hx
  unfold DS.look at hold ⊢
  rw [blk_put]
  generalize hq : x / 64 = q at *
  generalize hr : x % 64 = r at *
  have hlen : (l ++ cs).length = l.length + cs.length := by simp
  rw [hlen]
  by_cases hqn : q = n
  · subst hqn
    rw [if_pos rfl, over_getD _ _ _ _ (by omega) (by omega)]
    by_cases h1 : o ≤ r
    · by_cases h2 : r < o + cs.length
      · rw [if_pos ⟨h1, h2⟩, if_pos (by omega)]
        simp only [List.getD_eq_getElem?_getD, List.getElem?_append]
        rw [if_neg (by omega)]
        congr 2; omega
      · rw [if_neg (by omega), hold, if_neg (by omega), if_neg (by omega)]
    · rw [if_neg (by omega), hold]
      by_cases h3 : at_ ≤ x
      · rw [if_pos (by omega), if_pos (by omega)]
        simp only [List.getD_eq_getElem?_getD, List.getElem?_append]
        rw [if_pos (by omega)]
      · rw [if_neg (by omega), if_neg (by omega)]
  · rw [if_neg (by omega), hold]
    by_cases h3 : at_ ≤ x ∧ x < at_ + l.length
    · rw [if_pos h3, if_pos (by omega)]
      simp only [List.getD_eq_getElem?_getD, List.getElem?_append]
      rw [if_pos (by omega)]
    · rw [if_neg h3, if_neg (by omega)]
/-- an area and a place that Put does not take -/
theorem add_zero (a : Addr) : a.add 0 = a := by
  obtain ⟨b, o, f⟩ := a
  unfold Addr.add
  split <;> simp_all
theorem Addr.add_add (a : Addr) (i j : Nat) : (a.add i).add j = a.add (i + j) := by
  unfold Addr.add
  split <;> split <;> simp_all [Nat.add_assoc]
theorem run_slice38 (w : World) (g n : Nat) (hn : n < 64) : (Instr.sliceAt 38 (.pointer (some ⟨g, 0, none⟩)) (some (.int .i64 (n : Int))) none none).run Try.prog w = .ok (.slice (some ⟨g, n, none⟩) (64 - n) (64 - n)) w := by
  have hu : Try.prog.underlying 38 = some (.array 64 5) := Try.underlying38
  have hs : (Try.prog.info? 5).map (·.size) = some 1 := size1_5
  cases hq : Try.prog.info? 5 with
  | none => simp [hq] at hs
  | some x =>
    have hs : x.size = 1 := by simpa [hq] using hs
    have h3 : ¬ (64 = n) := by omega
    simp [Instr.sliceAt, sizeOf, typeInfo, hq, hs, Instr.sliceBounds, Instr.sliceBound, Instr.sureAddr, add_at, asIntOf, Result.andThen]
    rw [if_pos (by omega : n ≤ 64)]
    simp [h3]

section
variable {P : Program} {ops : Array Oper} {Q : Exit → Act → World → Prop} {rest : List Oper} {o : Oper} {a : Act} {w : World}
theorem wpList_slice38 (hgd : o.guard = none) (x y : Operand) (ho : o.op = .slice 38 x (some y) none none) (g n : Nat) (hx : a.eval x = .pointer (some ⟨g, 0, none⟩)) (hy : a.eval y = .int .i64 (n : Int)) (hn : n < 64)
    (h : wpList Try.prog ops Q rest (a.put o.dst (.slice (some ⟨g, n, none⟩) (64 - n) (64 - n))) w) : wpList Try.prog ops Q (o :: rest) a w := by
  refine wpList_plain hgd fun K hK => ?_
  unfold Oper.wp
  simp [execOp, ho, hx, hy, run_slice38 w g n hn, Result.andThen]
  exact hK _ _ h
end
def PutAt (w : World) (p : DP) (s : DS) (A : Nat) (l : List Int) (j : Nat) (wr : World) : Prop :=
  ∃ p' s', Step w p wr p' s' ∧ Laid s s' A (l.take j)
set_option maxRecDepth 100000 in
set_option maxHeartbeats 1000000 in
theorem put_ok (p : DP) (s : DS) (from_ room at_ : Nat) (pa : Option Addr) (ad : Addr) (cap : Nat) (l : List Int) (w : World) (h : Disk w p s) (hd : s.down = false) (hcap : l.length ≤ cap) (h1 : from_ + room ≤ s.n) (h2 : at_ + l.length ≤ 64 * room)
    (hb : Byt l) (hsrc : ∀ j, (hj : j < l.length) → w.cell? (ad.add j) = some (.int .u8 l[j])) (hbl : l ≠ [] → pa = some ad ∧ ad.block < w.heap.size ∧ ¬ p.has ad.block) :
    Calls Try.prog 11 #[.pointer (some ⟨p.bd, 0, none⟩), .int .i64 (from_ : Int), .int .i64 (room : Int), .int .i64 (at_ : Int), .slice pa l.length cap] w fun e w' => e = .returned (.int .i64 0) ∧ ∃ p' s', Step w p w' p' s' ∧ Laid s s' (64 * from_ + at_) l := by
  have H := Lib.hid h
  have hN := h.nmax
  have SRC := Lib.hid hsrc
  have BL := Lib.hid hbl
  have BY := Lib.hid hb
  clear h hsrc hbl hb
  go_enter Try.func11, Try.ntmps11
  go_wp2_with (first
    | (go_at_call 48; refine (area_yes p s from_ room _ H.out (by omega) (by omega) (by omega)).mono ?_; rintro e w' ⟨rfl, rfl⟩))
  go_loopw [3, 4] (fun a sl wr => ∃ j k : Nat, j ≤ l.length ∧ k = at_ + j ∧ a = .int .i64 (k : Int) ∧ (∃ pj, sl = .slice pj (l.length - j) (cap - j) ∧ (j < l.length → pj = some (ad.add j))) ∧ PutAt w p s (64 * from_ + at_) l j wr) (fun a _ _ => (at_ + l.length) - (intOf a).toNat)
  case atStart => exact ⟨0, at_, Nat.zero_le _, rfl, rfl, ⟨pa, rfl, fun h => by rw [add_zero]; exact (BL.out (by rintro rfl; simp at h)).1⟩, p, s, Step.of_below H.out (Below.refl _ _), by rw [List.take_zero]; exact Laid.nil _ _⟩
  case round =>
    obtain ⟨j, k, hj, hk, rfl, ⟨pj, rfl, hpj⟩, hI⟩ := hrel
    by_cases hlt : j < l.length
    · obtain rfl := hpj hlt
      obtain ⟨pr, sr, hst, hla⟩ := hI
      obtain ⟨q, o, hqo, ho64⟩ : ∃ q o : Nat, k = 64 * q + o ∧ o < 64 := ⟨k / 64, k % 64, by omega, by omega⟩
      have hq1 : (k : Int) / 64 = q := by omega
      have hq2 : (k : Int) % 64 = o := by omega
      have hqr : from_ + q < s.n := by omega
      have hk1 : (k : Int) ≤ 262144 := by omega
      have QO := Lib.hid hqo
      have HK := Lib.hid hk
      obtain ⟨m, hm⟩ : ∃ m : Nat, m = l.length - j := ⟨_, rfl⟩
      have hm0 : 0 < m := by omega
      have hm1 : m ≤ 262144 := by omega
      rw [← hm]
      have HM := Lib.hid hm
      clear hqo hk hm
      have ST := Lib.hid hst
      have LA := Lib.hid hla
      obtain ⟨X, hX⟩ : ∃ X, X = sr.blk ((from_ + q : Nat) : Int) := ⟨_, rfl⟩
      have hxx := blk_ok hst.disk ((from_ + q : Nat) : Int) (by omega) (by rw [hla.n]; omega)
      rw [← hX] at hxx
      have hdr : sr.down = false := hla.down.trans hd
      have hbl := BL.out (by rintro rfl; simp at hlt)
      have RD := Lib.hid (show Calls Try.prog 15 #[.pointer (some ⟨p.bd, 0, none⟩), .int .i64 ((from_ : Int) + (q : Int))] wr fun e w' => e = .returned (.tuple #[.agg (U8 X), .int .i64 0]) ∧ Below wr.heap.size wr w' by
        have := read_ok pr sr ((from_ + q : Nat) : Int) wr hst.disk hdr (by omega) (by rw [hla.n]; omega)
        rwa [← hX, hst.bd, Int.natCast_add] at this)
      obtain ⟨kk, hkk⟩ : ∃ kk, kk = min m (64 - o) := ⟨_, rfl⟩
      have hk2 : kk ≤ m := by omega
      have hk3 : 0 < kk := by omega
      have hk4 : kk ≤ 64 := by omega
      obtain ⟨CS, hCS⟩ : ∃ CS, CS = (l.drop j).take kk := ⟨_, rfl⟩
      have hcl : CS.length = kk := by rw [hCS]; simp; rw [← HM.out]; omega
      obtain ⟨X', hX'⟩ : ∃ X', X' = over X o CS := ⟨_, rfl⟩
      have hxl : X'.length = 64 := by rw [hX', length_over _ _ _ (by omega)]; exact hxx.1
      have hxb : Byt X' := by rw [hX', hCS]; exact hxx.2.over ((BY.out.drop j).take kk) _
      have WR := Lib.hid (show ∀ V, Disk V pr sr → Calls Try.prog 16 #[.pointer (some ⟨p.bd, 0, none⟩), .int .i64 ((from_ : Int) + (q : Int)), .agg (U8 X')] V fun e w' => e = .returned (.int .i64 0) ∧ ∃ p', Step V pr w' p' (sr.put ((from_ + q : Nat) : Int) X') from fun V hV => by
        have := write_ok pr sr ((from_ + q : Nat) : Int) X' V hV hdr (by omega) (by rw [hla.n]; omega) hxl hxb
        rwa [hst.bd, Int.natCast_add] at this)
      have SR := Lib.hid (show ∀ V : World, Kept wr V (fun _ => False) → ∀ i, (h : i < CS.length) → V.cell? ((ad.add j).add i) = some (.int .u8 CS[i]) from fun V hV i hi => by
        have hji : j + i < l.length := by have := HM.out; omega
        have e : CS[i] = l[j + i] := by simp [hCS]
        rw [Addr.add_add, e, World.cell?_of_block (w := wr) (hV.block _ (by
          have : (ad.add (j + i)).block = ad.block := by unfold Addr.add; split <;> rfl
          rw [this]; exact Nat.lt_of_lt_of_le hbl.2.1 hst.kept.size) (by simp)), World.cell?_of_block (w := w) (hst.kept.block _ (by
          have : (ad.add (j + i)).block = ad.block := by unfold Addr.add; split <;> rfl
          rw [this]; exact hbl.2.1) (by
          have : (ad.add (j + i)).block = ad.block := by unfold Addr.add; split <;> rfl
          rw [this]; exact hbl.2.2))]
        exact SRC.out _ hji)
      have XL := Lib.hid hxx.1
      have XS := Lib.hid (show (Try.prog.info? 38).map (·.size) = some (U8 X).size by rw [size_U8, hxx.1]; exact size38)
      have XS' := Lib.hid (show (Try.prog.info? 38).map (·.size) = some (U8 X').size by rw [size_U8, hxl]; exact size38)
      have HX := Lib.hid hX
      have HX' := Lib.hid hX'
      have HCS := Lib.hid hCS
      have CL := Lib.hid hcl
      have HKK := Lib.hid hkk
      clear hst hla hxx hxl hxb hX hX' hCS hcl hkk hdr hbl
      go_wp2_with (first
        | (go_at_call 15; refine RD.out.mono ?_; rintro e w3 ⟨rfl, b3⟩; have B3 := Lib.hid b3; clear b3)
        | (refine wpList_new rfl 38 rfl _ run_zero38 w3.heap.size rfl ?_; intro w4 g0 hs4 hb4; have G4 := Lib.hid (show Blk w4 w3.heap.size 38 (U8 Z64) from g0); have B4 := Lib.hid hb4; clear g0 hb4)
        | (refine wpList_store_blk rfl 38 _ _ rfl w3.heap.size 38 _ (U8 X) rfl rfl G4.out (by rw [size_U8, size_U8, XL.out, len_Z64]) XS.out (one_U8 _) ?_; intro w5 g5 ho5; have G5 := Lib.hid g5; have O5 := Lib.hid ho5; clear g5 ho5
           have K5 := Lib.hid (show Kept wr w5 (fun _ => False) from Only.kept (Kept.below (B3.out.trans (B4.out.mono B3.out.size))) O5.out (.inr B3.out.size)))
        | fail)
      rw [run_slice38 w5 w3.heap.size o ho64]
      go_wp2_with (first
        | (refine wpList_copy_U8 rfl (.tmp 58) (.tmp 59) 22 22 rfl 5 Try.underlying22 size1_5 w3.heap.size o (64 - o) (64 - o) (ad.add j) m (cap - j) rfl rfl 38 X CS G5.out (CL.out.trans HKK.out) (SR.out _ K5.out) (by have := CL.out; have := XL.out; have := HKK.out; omega) ?_; intro w6 g6 ho6
           have G6 := Lib.hid (show Blk w6 w3.heap.size 38 (U8 X') by rw [HX'.out]; exact g6)
           have K6 := Lib.hid (show Kept wr w6 (fun _ => False) from Only.kept K5.out ho6 (.inr B3.out.size)); clear g6 ho6)
        | (refine wpList_load_row rfl 38 _ rfl w3.heap.size rfl 38 (U8 X') (0, 0) _ G6.out Try.underlying38 rfl XS'.out ?_)
        | (go_at_call 16; refine (WR.out w6 (ST.out.disk.below K6.out.toBelow)).mono ?_; rintro e w7 ⟨rfl, p7, st7⟩; have ST7 := Lib.hid st7; clear st7))
      rw [CL.out]
      go_quiet (fail)
      go_wp2_with fail
      go_roundw
      case rel =>
        have hm := HM.out
        refine ⟨j + kk, k + kk, by omega, by rw [HK.out]; omega, by rw [Int.natCast_add], ⟨if cap - j = kk then some (ad.add j) else some ((ad.add j).add kk), ?_, ?_⟩, p7, sr.put ((from_ + q : Nat) : Int) X', ?_, ?_⟩
        · rw [show m - kk = l.length - (j + kk) by omega, show cap - j - kk = cap - (j + kk) by omega]
        · intro hlt2
          rw [if_neg (by omega), Addr.add_add]
        · have st := ST.out.trans ((Step.of_below ST.out.disk K6.out.toBelow).trans ST7.out)
          exact ⟨st.disk.drewN nq, st.bd, st.kept.drewN nq, st.foot⟩
        · have := LA.out.step (cs := CS) (n := from_ + q) (o := o) (by rw [List.length_take, Nat.min_eq_left (by omega)]; have := QO.out; have := HK.out; omega) ho64 (by have := CL.out; have := HKK.out; omega) hqr (by rw [← HX.out]; exact XL.out)
          rw [HX'.out, HX.out, List.take_add, ← HCS.out]
          exact this
      case measure => have := HK.out; simp [intOf]; omega
    · have hjl : j = l.length := by omega
      subst hjl
      have PI := Lib.hid hI
      clear hI hpj
      rw [Nat.sub_self]
      go_wp2_with fail
      go_ret
      obtain ⟨pr, sr, hst, hla⟩ := PI.out
      rw [List.take_length] at hla
      exact ⟨rfl, pr, sr, hst, hla⟩
end Go.Proofs.Ytfodboooopkheaa
