/- A disk that stands at a block of its own: each call on it, said without where its parts lie. -/
import Derived.Test.YtfodboooopkheaaPlain
namespace Go.Proofs.Ytfodboooopkheaa
open Go.RowKit

/-- a disk stands at block b, none of its parts below B -/
def At (w : World) (b B : Nat) (s : DS) : Prop := ∃ p : DP, p.bd = b ∧ Disk w p s ∧ ∀ k, p.has k → B ≤ k
/-- what a call on such a disk leaves: all below B, and all variables that are no disk's -/
structure Turn (B : Nat) (w w' : World) : Prop where
  below : Below B w w'
  blk : ∀ g t cs, Blk w g t cs → t ≠ 78 → t ≠ 5 → t ≠ 3 → Blk w' g t cs
section
variable {w w' w'' : World} {b B : Nat} {s : DS}
theorem Turn.size (h : Turn B w w') : w.heap.size ≤ w'.heap.size := h.below.size
theorem Turn.refl (B : Nat) (w : World) : Turn B w w := ⟨Below.refl _ _, fun _ _ _ h _ _ _ => h⟩
theorem Turn.trans (h : Turn B w w') (h' : Turn B w' w'') : Turn B w w'' :=
  ⟨h.below.trans h'.below, fun g t cs hb h1 h2 h3 => h'.blk g t cs (h.blk g t cs hb h1 h2 h3) h1 h2 h3⟩
theorem Turn.of_below (h : Below w.heap.size w w') (hB : B ≤ w.heap.size) : Turn B w w' :=
  ⟨h.mono hB, fun g _t _cs hb _ _ _ => (h.block g hb.lt).trans hb⟩
theorem Turn.drew (h : Turn B w w') : Turn B w w'.drew := ⟨h.below.drew, h.blk⟩
theorem Turn.of_only {g : Nat} (h : Only w w' g) (hB : B ≤ g) : Below B w w' :=
  ⟨h.os, h.tape, h.output, by rw [h.size]; exact Nat.le_refl _, fun k hk => h.block k (by omega)⟩
theorem At.below (h : At w b B s) (hb : Below w.heap.size w w') : At w' b B s := by
  obtain ⟨p, h1, h2, h3⟩ := h
  exact ⟨p, h1, h2.below hb, h3⟩
theorem At.drew (h : At w b B s) : At w.drew b B s := by
  obtain ⟨p, h1, h2, h3⟩ := h
  exact ⟨p, h1, h2.drew, h3⟩
theorem At.only {g : Nat} {t : TypeId} {cs : Array Value} (h : At w b B s) (ho : Only w w' g) (hg : Blk w g t cs) (h1 : t ≠ 78) (h2 : t ≠ 5) (h3 : t ≠ 3) : At w' b B s := by
  obtain ⟨p, k1, k2, k3⟩ := h
  exact ⟨p, k1, k2.only ho (k2.not_has hg h1 h2 h3), k3⟩
theorem At.low (h : At w b B s) : B ≤ b := by
  obtain ⟨p, rfl, h2, h3⟩ := h
  exact h3 _ (.inl rfl)
theorem At.lt (h : At w b B s) : b < w.heap.size := by
  obtain ⟨p, rfl, h2, h3⟩ := h
  exact h2.lt _ (.inl rfl)
theorem Step.at_ {p p' : DP} {s' : DS} (h : Step w p w' p' s') (hp : p.bd = b) (hd : Disk w p s) (h3 : ∀ k, p.has k → B ≤ k) (hB : B ≤ w.heap.size) : At w' b B s' ∧ Turn B w w' :=
  ⟨⟨p', h.bd.trans hp, h.disk, fun k hk => (h.foot k hk).elim (h3 k) (fun hge => by omega)⟩,
    ⟨h.kept.os, h.kept.tape, h.kept.output, h.kept.size, fun k hk => h.kept.block k (by omega) (fun hh => by have := h3 k hh; omega)⟩,
    fun g t cs hb h1 h2 h3 => h.kept.blk hb (hd.not_has hb h1 h2 h3)⟩
theorem At.nmax (h : At w b B s) : s.n ≤ 4096 := by
  obtain ⟨p, _, h2, _⟩ := h
  exact h2.nmax
theorem At.dlen (h : At w b B s) : s.dur.length = 64 * s.n := by
  obtain ⟨p, _, h2, _⟩ := h
  exact h2.len
theorem At.flushed_blk (h : At w b B s) (m : Int) (m0 : 0 ≤ m) (m1 : m < (s.n : Int)) : s.flushed.blk m = s.blk m := by
  obtain ⟨p, _, h2, _⟩ := h
  exact h2.flushed_blk m m0 m1
theorem At.blk_ok (h : At w b B s) (m : Int) (m0 : 0 ≤ m) (m1 : m < (s.n : Int)) : (s.blk m).length = 64 ∧ Byt (s.blk m) := by
  obtain ⟨p, _, h2, _⟩ := h
  exact Ytfodboooopkheaa.blk_ok h2 m m0 m1
theorem At.best_wf (h : At w b B s) (at_ : Int) (h0 : 0 ≤ at_) (h1 : at_ + 2 ≤ (s.n : Int)) : (bestN s at_ 2).1.wf ∧ 0 ≤ (bestN s at_ 2).2 ∧ (bestN s at_ 2).2 ≤ 1099511627776 := by
  obtain ⟨p, _, h2, _⟩ := h
  exact bestN_wf h2 at_ h0 2 h1
theorem At.byt_from (h : At w b B s) (at_ n : Nat) (hn : at_ + n ≤ 64 * s.n) : Byt (s.from_ at_ n) := by
  obtain ⟨p, _, h2, _⟩ := h
  exact Ytfodboooopkheaa.byt_from h2 at_ n hn
end

theorem new_At (n : Nat) (w : World) (h1 : n ≤ 4096) :
    Calls Try.prog 9 #[.int .i64 n] w fun e w' => ∃ b, e = .returned (.tuple #[.pointer (some ⟨b, 0, none⟩), .int .i64 0]) ∧ At w' b w.heap.size (newS n) ∧ Below w.heap.size w w' := by
  refine (new_any n w h1).mono ?_
  rintro e w' ⟨p, rfl, d, bl, hp⟩
  exact ⟨p.bd, rfl, ⟨p, rfl, d, hp⟩, bl⟩
theorem start_At (b B : Nat) (s : DS) (at_ : Int) (w : World) (h : At w b B s) (hd : s.down = false) (h0 : 0 ≤ at_) (h1 : at_ + 2 ≤ (s.n : Int)) :
    Calls Try.prog 14 #[.pointer (some ⟨b, 0, none⟩), .int .i64 at_] w fun e w' => e = .returned (startV s at_) ∧ Below w.heap.size w w' := by
  obtain ⟨p, rfl, d, _⟩ := h
  exact start_any p s at_ w d hd h0 h1
/-- what a Start hands over where a boot block is good -/
theorem startV_good (s : DS) (at_ : Int) (h : (bestN s at_ 2).2 ≠ 0) : startV s at_ = .tuple #[.agg (bestN s at_ 2).1.cells, .int .i64 (bestN s at_ 2).2, .int .i64 0] := by
  unfold startV
  rw [if_neg h]
theorem start_good (b B : Nat) (s : DS) (at_ : Int) (bt : BT) (n : Int) (w : World) (h : At w b B s) (hd : s.down = false) (h0 : 0 ≤ at_) (h1 : at_ + 2 ≤ (s.n : Int)) (hb : bestN s at_ 2 = (bt, n)) (hn : n ≠ 0) :
    Calls Try.prog 14 #[.pointer (some ⟨b, 0, none⟩), .int .i64 at_] w fun e w' => e = .returned (.tuple #[.agg bt.cells, .int .i64 n, .int .i64 0]) ∧ Below w.heap.size w w' := by
  have := start_At b B s at_ w h hd h0 h1
  rwa [startV_good s at_ (by rw [hb]; exact hn), hb] at this
theorem start_none (b B : Nat) (s : DS) (at_ : Int) (bt : BT) (w : World) (h : At w b B s) (hd : s.down = false) (h0 : 0 ≤ at_) (h1 : at_ + 2 ≤ (s.n : Int)) (hb : bestN s at_ 2 = (bt, 0)) :
    Calls Try.prog 14 #[.pointer (some ⟨b, 0, none⟩), .int .i64 at_] w fun e w' => e = .returned (.tuple #[.agg BT.zero.cells, .int .i64 0, .int .i64 81]) ∧ Below w.heap.size w w' := by
  have := start_At b B s at_ w h hd h0 h1
  have e : startV s at_ = .tuple #[.agg BT.zero.cells, .int .i64 0, .int .i64 81] := by
    unfold startV
    rw [if_pos (by rw [hb])]
  rwa [e] at this
def PointAt (b B : Nat) (s : DS) (at_ : Int) (bt : BT) (w : World) (e : Ending) (w' : World) : Prop :=
  ((¬ bt.may ∧ e = .returned (.int .i64 1) ∧ At w' b B s) ∨
  (bt.may ∧ (bestN s at_ 2).2 = 1099511627776 ∧ e = .returned (.int .i64 81) ∧ At w' b B s) ∨
  (bt.may ∧ (bestN s at_ 2).2 ≠ 1099511627776 ∧ e = .returned (.int .i64 0) ∧ At w' b B (s.put (at_ + 1 - ((bestN s at_ 2).2 + 1) % 2) (encB bt ((bestN s at_ 2).2 + 1))).flushed)) ∧ Turn B w w'
theorem point_At (b B : Nat) (s : DS) (at_ : Int) (bt : BT) (w : World) (h : At w b B s) (hB : B ≤ w.heap.size) (hd : s.down = false) (h0 : 0 ≤ at_) (h1 : at_ + 2 ≤ (s.n : Int)) (hw : bt.wf) :
    Calls Try.prog 12 #[.pointer (some ⟨b, 0, none⟩), .int .i64 at_, .agg bt.cells] w (PointAt b B s at_ bt w) := by
  obtain ⟨p, rfl, d, h3⟩ := h
  refine (point_any p s at_ bt w d hd h0 h1 hw).mono ?_
  rintro e w' (⟨m, rfl, st⟩ | ⟨m, m2, rfl, st⟩ | ⟨m, m2, rfl, p', st⟩)
  · obtain ⟨a, t⟩ := st.at_ rfl d h3 hB
    exact ⟨.inl ⟨m, rfl, a⟩, t⟩
  · obtain ⟨a, t⟩ := st.at_ rfl d h3 hB
    exact ⟨.inr (.inl ⟨m, m2, rfl, a⟩), t⟩
  · obtain ⟨a, t⟩ := st.at_ rfl d h3 hB
    exact ⟨.inr (.inr ⟨m, m2, rfl, a⟩), t⟩
theorem point_yes (b B : Nat) (s : DS) (at_ : Int) (bt : BT) (n : Int) (w : World) (h : At w b B s) (hB : B ≤ w.heap.size) (hd : s.down = false) (h0 : 0 ≤ at_) (h1 : at_ + 2 ≤ (s.n : Int)) (hw : bt.wf) (hm : bt.may) (hn : (bestN s at_ 2).2 = n) (hn2 : n ≠ 1099511627776) :
    Calls Try.prog 12 #[.pointer (some ⟨b, 0, none⟩), .int .i64 at_, .agg bt.cells] w fun e w' => e = .returned (.int .i64 0) ∧ At w' b B (s.put (at_ + 1 - (n + 1) % 2) (encB bt (n + 1))).flushed ∧ Turn B w w' := by
  subst hn
  refine (point_At b B s at_ bt w h hB hd h0 h1 hw).mono ?_
  rintro e w' ⟨(⟨m, rfl, a⟩ | ⟨m, m2, rfl, a⟩ | ⟨m, m2, rfl, a⟩), t⟩
  · exact absurd hm m
  · exact absurd m2 hn2
  · exact ⟨rfl, a, t⟩
theorem point_no (b B : Nat) (s : DS) (at_ : Int) (bt : BT) (w : World) (h : At w b B s) (hB : B ≤ w.heap.size) (hd : s.down = false) (h0 : 0 ≤ at_) (h1 : at_ + 2 ≤ (s.n : Int)) (hw : bt.wf) (hm : ¬ bt.may) :
    Calls Try.prog 12 #[.pointer (some ⟨b, 0, none⟩), .int .i64 at_, .agg bt.cells] w fun e w' => e = .returned (.int .i64 1) ∧ At w' b B s ∧ Turn B w w' := by
  refine (point_At b B s at_ bt w h hB hd h0 h1 hw).mono ?_
  rintro e w' ⟨(⟨m, rfl, a⟩ | ⟨m, m2, rfl, a⟩ | ⟨m, m2, rfl, a⟩), t⟩
  · exact ⟨rfl, a, t⟩
  · exact absurd m hm
  · exact absurd m hm
theorem read_At (b B : Nat) (s : DS) (n : Int) (w : World) (h : At w b B s) (hd : s.down = false) (h0 : 0 ≤ n) (h1 : n < (s.n : Int)) :
    Calls Try.prog 15 #[.pointer (some ⟨b, 0, none⟩), .int .i64 n] w fun e w' => e = .returned (.tuple #[.agg (U8 (s.blk n)), .int .i64 0]) ∧ Below w.heap.size w w' := by
  obtain ⟨p, rfl, d, _⟩ := h
  exact read_ok p s n w d hd h0 h1
theorem write_At (b B : Nat) (s : DS) (n : Int) (l : List Int) (w : World) (h : At w b B s) (hB : B ≤ w.heap.size) (hd : s.down = false) (h0 : 0 ≤ n) (h1 : n < (s.n : Int)) (hl : l.length = 64) (hb : Byt l) :
    Calls Try.prog 16 #[.pointer (some ⟨b, 0, none⟩), .int .i64 n, .agg (U8 l)] w fun e w' => e = .returned (.int .i64 0) ∧ At w' b B (s.put n l) ∧ Turn B w w' := by
  obtain ⟨p, rfl, d, h3⟩ := h
  refine (write_ok p s n l w d hd h0 h1 hl hb).mono ?_
  rintro e w' ⟨rfl, p', st⟩
  exact ⟨rfl, st.at_ rfl d h3 hB⟩
theorem flush_At (b B : Nat) (s : DS) (w : World) (h : At w b B s) (hB : B ≤ w.heap.size) (hd : s.down = false) :
    Calls Try.prog 39 #[.pointer (some ⟨b, 0, none⟩)] w fun e w' => e = .returned (.int .i64 0) ∧ At w' b B s.flushed ∧ Turn B w w' := by
  obtain ⟨p, rfl, d, h3⟩ := h
  refine (flush_ok p s w d hd).mono ?_
  rintro e w' ⟨rfl, p', st⟩
  exact ⟨rfl, st.at_ rfl d h3 hB⟩
theorem crash_At (b B : Nat) (s : DS) (fate : Int) (V : World) (h : At V b B s) (hB : B ≤ V.heap.size) (hd : s.down = false) :
    Calls Try.prog 40 #[.pointer (some ⟨b, 0, none⟩), .slice (some ⟨V.heap.size, 0, none⟩) 1 1] (V.alloc (.cells #[.int .i64 fate] 3)) fun e w' => e = .returned (.tuple #[]) ∧ At w' b B (s.crashed fate) ∧ Turn B V w' := by
  obtain ⟨p, rfl, d, h3⟩ := h
  have hb : Below V.heap.size V (V.alloc (.cells #[.int .i64 fate] 3)) := (Below.refl _ _).alloc (Nat.le_refl _) _
  refine (crash_ok p s fate V.heap.size _ (d.below hb) hd (Blk.new V 3 _) (fun hk => Nat.lt_irrefl _ (d.lt _ hk))).mono ?_
  rintro e w' ⟨rfl, p', st⟩
  exact ⟨rfl, ((Step.of_below d hb).trans st).at_ rfl d h3 hB⟩
theorem startd_At (b B : Nat) (s : DS) (w : World) (h : At w b B s) (hB : B ≤ w.heap.size) :
    Calls Try.prog 41 #[.pointer (some ⟨b, 0, none⟩)] w fun e w' => e = .returned (.tuple #[]) ∧ At w' b B { s with down := false } ∧ Turn B w w' := by
  obtain ⟨p, rfl, d, h3⟩ := h
  refine (start_ok p s w d).mono ?_
  rintro e w' ⟨rfl, st⟩
  exact ⟨rfl, st.at_ rfl d h3 hB⟩
theorem put_At (b B : Nat) (s : DS) (from_ room at_ : Nat) (pa : Option Addr) (ad : Addr) (cap : Nat) (l : List Int) (w : World) (h : At w b B s) (hB : B ≤ w.heap.size) (hd : s.down = false) (hcap : l.length ≤ cap) (h1 : from_ + room ≤ s.n) (h2 : at_ + l.length ≤ 64 * room)
    (hb : Byt l) (hsrc : ∀ j, (hj : j < l.length) → w.cell? (ad.add j) = some (.int .u8 l[j])) (hbl : l ≠ [] → pa = some ad ∧ ad.block < B) :
    Calls Try.prog 11 #[.pointer (some ⟨b, 0, none⟩), .int .i64 (from_ : Int), .int .i64 (room : Int), .int .i64 (at_ : Int), .slice pa l.length cap] w fun e w' => e = .returned (.int .i64 0) ∧ ∃ s', At w' b B s' ∧ Laid s s' (64 * from_ + at_) l ∧ Turn B w w' := by
  obtain ⟨p, rfl, d, h3⟩ := h
  refine (put_ok p s from_ room at_ pa ad cap l w d hd hcap h1 h2 hb hsrc (fun hn => ⟨(hbl hn).1, by have := (hbl hn).2; omega, fun hk => by have := h3 _ hk; have := (hbl hn).2; omega⟩)).mono ?_
  rintro e w' ⟨rfl, p', s', st, la⟩
  obtain ⟨a, t⟩ := st.at_ rfl d h3 hB
  exact ⟨rfl, s', a, la, t⟩
/-- .. out of bytes that were just made -/
theorem put_new (b B : Nat) (s : DS) (from_ room at_ cap : Nat) (l : List Int) (V W : World) (g : Nat) (h : At V b B s) (hB : B ≤ V.heap.size) (hW : Below V.heap.size V W) (hg : V.heap.size ≤ g ∧ g < W.heap.size) (hd : s.down = false) (hcap : l.length ≤ cap) (h1 : from_ + room ≤ s.n) (h2 : at_ + l.length ≤ 64 * room)
    (hb : Byt l) (hsrc : ∀ j, (hj : j < l.length) → W.cell? ((⟨g, 0, none⟩ : Addr).add j) = some (.int .u8 l[j])) :
    Calls Try.prog 11 #[.pointer (some ⟨b, 0, none⟩), .int .i64 (from_ : Int), .int .i64 (room : Int), .int .i64 (at_ : Int), .slice (some ⟨g, 0, none⟩) l.length cap] W fun e w' => e = .returned (.int .i64 0) ∧ ∃ s', At w' b B s' ∧ Laid s s' (64 * from_ + at_) l ∧ Turn B V w' := by
  obtain ⟨p, rfl, d, h3⟩ := h
  refine (put_ok p s from_ room at_ (some ⟨g, 0, none⟩) ⟨g, 0, none⟩ cap l W (d.below hW) hd hcap h1 h2 hb hsrc (fun hn => ⟨rfl, hg.2, fun hk => by have := d.lt _ hk; have := hg.1; simp only at *; omega⟩)).mono ?_
  rintro e w' ⟨rfl, p', s', st, la⟩
  obtain ⟨a, t⟩ := ((Step.of_below d hW).trans st).at_ rfl d h3 hB
  exact ⟨rfl, s', a, la, t⟩
theorem put_no_At (b B : Nat) (s : DS) (from_ room at_ len cap : Nat) (pa : Option Addr) (w : World) (h : At w b B s) (h1 : from_ + room ≤ s.n) (h2 : at_ ≤ 64 * room) (h3 : 64 * room < at_ + len) (h4 : len ≤ 1000000) :
    Calls Try.prog 11 #[.pointer (some ⟨b, 0, none⟩), .int .i64 (from_ : Int), .int .i64 (room : Int), .int .i64 (at_ : Int), .slice pa len cap] w fun e w' => e = .returned (.int .i64 1) ∧ w = w' := by
  obtain ⟨p, rfl, d, _⟩ := h
  exact put_no p s from_ room at_ len cap pa w d h1 h2 h3 h4
theorem get_At (b B : Nat) (s : DS) (from_ room size : Nat) (w : World) (h : At w b B s) (hd : s.down = false) (h1 : from_ + room ≤ s.n) (h2 : size ≤ 64 * room) (h3 : 0 < size) :
    Calls Try.prog 42 #[.pointer (some ⟨b, 0, none⟩), .int .i64 (from_ : Int), .int .i64 (room : Int), .int .i64 (size : Int)] w fun e w' =>
      ∃ g cap, e = .returned (.tuple #[.slice (some ⟨g, 0, none⟩) size cap, .int .i64 0]) ∧ Below w.heap.size w w' ∧ w.heap.size ≤ g ∧ g < w'.heap.size ∧ size ≤ cap ∧ ∀ i, (hi : i < size) → w'.cell? ⟨g, i, none⟩ = some (.int .u8 (s.look (64 * from_ + i))) := by
  obtain ⟨p, rfl, d, _⟩ := h
  exact get_ok p s from_ room size w d hd h1 h2 h3
theorem whole_At (b B : Nat) (s : DS) (from_ room size : Nat) (bt : BT) (w : World) (h : At w b B s) (hd : s.down = false) (h1 : from_ + room ≤ s.n) (h2 : size ≤ 64 * room) (h3 : 0 < size) (hbs : bt.size = (size : Int)) (hbl : bt.whole.length = 32) :
    Calls Try.prog 13 #[.pointer (some ⟨b, 0, none⟩), .int .i64 (from_ : Int), .int .i64 (room : Int), .agg bt.cells] w fun e w' => e = .returned (.int .i64 (wholeE s from_ bt size)) ∧ Below w.heap.size w w' := by
  obtain ⟨p, rfl, d, _⟩ := h
  exact whole_any p s from_ room size bt w d hd h1 h2 h3 hbs hbl
/-- a call's answer goes into a new variable -/
theorem below_var {w1 w2 w3 w4 : World} (b2 : Below w1.heap.size w1 w2) (b3 : Below w2.heap.size w2 w3) (o4 : Only w3 w4 w2.heap.size) : Below w1.heap.size w1 w4 :=
  (Only.kept (F := fun _ => False) (Kept.below (b2.trans (b3.mono b2.size))) o4 (.inr b2.size)).toBelow
theorem below_var1 {w2 w3 w4 : World} (b3 : Below w2.heap.size w2 w3) (o4 : Only w3 w4 w2.heap.size) : Below w2.heap.size w2 w4 :=
  below_var (Below.refl _ _) b3 o4
theorem Below.then_ {B : Nat} {w w1 w2 : World} (h : Below B w w1) (hB : B ≤ w1.heap.size) (h' : Below w1.heap.size w1 w2) : Below B w w2 := h.trans (h'.mono hB)
theorem Below.on {w w1 w2 : World} (h : Below w.heap.size w w1) (h' : Below w1.heap.size w1 w2) : Below w.heap.size w w2 := h.trans (h'.mono h.size)
theorem Below.turn {w w1 w2 : World} (h : Below w.heap.size w w1) (h' : Turn w.heap.size w1 w2) : Below w.heap.size w w2 := h.trans h'.below
end Go.Proofs.Ytfodboooopkheaa
