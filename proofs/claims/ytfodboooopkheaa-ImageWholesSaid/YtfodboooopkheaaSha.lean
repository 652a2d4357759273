/- sha: what a digest is. -/
import Derived.Test.YtfodboooopkheaaGet
namespace Go.Proofs.Ytfodboooopkheaa
open Go.RowKit
/-- a word -/
def W32 (x : Int) : Prop := 0 ≤ x ∧ x ≤ 4294967295
theorem w32_wrap (z : Int) : W32 (IntKind.u32.wrap z) := by unfold W32; rw [IntKind.wrap_u32]; omega
theorem w32_mod (z : Int) : W32 (z % 4294967296) := by unfold W32; omega
theorem w32_or (x y : Int) : W32 (bits .or .u32 x y) := w32_wrap _
theorem w32_xor (x y : Int) : W32 (bits .xor .u32 x y) := w32_wrap _
theorem w32_and (x y : Int) : W32 (bits .and .u32 x y) := w32_wrap _
/-- a word turned: by what it is multiplied, and divided -/
def rr (a b x : Int) : Int := bits .or .u32 (x * a % 4294967296) (x / b)
theorem w32_rr (a b x : Int) : W32 (rr a b x) := w32_or _ _
set_option maxRecDepth 100000 in
set_option maxHeartbeats 400000 in
theorem rot75_2 (x : Int) (w : World) (_h0 : 0 ≤ x) (_h1 : x ≤ 4294967295) : Calls Try.prog 75 #[.int .u32 x, .int .i64 (-2)] w fun e w' => e = .returned (.int .u32 (rr 1073741824 4 x)) ∧ w = w' := by
  have hb : bits .and .u64 (IntKind.u64.wrap (-2)) 31 = 30 := by decide +kernel
  go_enter Try.func75, Try.ntmps75
  go_wp2_with fail
  go_ret
  exact ⟨rfl, rfl⟩
set_option maxRecDepth 100000 in
set_option maxHeartbeats 400000 in
theorem rot_2 (x : Int) (w : World) (h : W32 x) : Calls Try.prog 74 #[.int .u32 x, .int .i64 2] w fun e w' => e = .returned (.int .u32 (rr 1073741824 4 x)) ∧ w = w' := by
  obtain ⟨h0, h1⟩ := h
  go_enter Try.func74, Try.ntmps74
  go_wp2_with (go_at_call 75; refine (rot75_2 x _ h0 h1).mono ?_; rintro e w' ⟨rfl, rfl⟩)
  go_ret
  exact ⟨rfl, rfl⟩
set_option maxRecDepth 100000 in
set_option maxHeartbeats 400000 in
theorem rot75_6 (x : Int) (w : World) (_h0 : 0 ≤ x) (_h1 : x ≤ 4294967295) : Calls Try.prog 75 #[.int .u32 x, .int .i64 (-6)] w fun e w' => e = .returned (.int .u32 (rr 67108864 64 x)) ∧ w = w' := by
  have hb : bits .and .u64 (IntKind.u64.wrap (-6)) 31 = 26 := by decide +kernel
  go_enter Try.func75, Try.ntmps75
  go_wp2_with fail
  go_ret
  exact ⟨rfl, rfl⟩
set_option maxRecDepth 100000 in
set_option maxHeartbeats 400000 in
theorem rot_6 (x : Int) (w : World) (h : W32 x) : Calls Try.prog 74 #[.int .u32 x, .int .i64 6] w fun e w' => e = .returned (.int .u32 (rr 67108864 64 x)) ∧ w = w' := by
  obtain ⟨h0, h1⟩ := h
  go_enter Try.func74, Try.ntmps74
  go_wp2_with (go_at_call 75; refine (rot75_6 x _ h0 h1).mono ?_; rintro e w' ⟨rfl, rfl⟩)
  go_ret
  exact ⟨rfl, rfl⟩
set_option maxRecDepth 100000 in
set_option maxHeartbeats 400000 in
theorem rot75_7 (x : Int) (w : World) (_h0 : 0 ≤ x) (_h1 : x ≤ 4294967295) : Calls Try.prog 75 #[.int .u32 x, .int .i64 (-7)] w fun e w' => e = .returned (.int .u32 (rr 33554432 128 x)) ∧ w = w' := by
  have hb : bits .and .u64 (IntKind.u64.wrap (-7)) 31 = 25 := by decide +kernel
  go_enter Try.func75, Try.ntmps75
  go_wp2_with fail
  go_ret
  exact ⟨rfl, rfl⟩
set_option maxRecDepth 100000 in
set_option maxHeartbeats 400000 in
theorem rot_7 (x : Int) (w : World) (h : W32 x) : Calls Try.prog 74 #[.int .u32 x, .int .i64 7] w fun e w' => e = .returned (.int .u32 (rr 33554432 128 x)) ∧ w = w' := by
  obtain ⟨h0, h1⟩ := h
  go_enter Try.func74, Try.ntmps74
  go_wp2_with (go_at_call 75; refine (rot75_7 x _ h0 h1).mono ?_; rintro e w' ⟨rfl, rfl⟩)
  go_ret
  exact ⟨rfl, rfl⟩
set_option maxRecDepth 100000 in
set_option maxHeartbeats 400000 in
theorem rot75_11 (x : Int) (w : World) (_h0 : 0 ≤ x) (_h1 : x ≤ 4294967295) : Calls Try.prog 75 #[.int .u32 x, .int .i64 (-11)] w fun e w' => e = .returned (.int .u32 (rr 2097152 2048 x)) ∧ w = w' := by
  have hb : bits .and .u64 (IntKind.u64.wrap (-11)) 31 = 21 := by decide +kernel
  go_enter Try.func75, Try.ntmps75
  go_wp2_with fail
  go_ret
  exact ⟨rfl, rfl⟩
set_option maxRecDepth 100000 in
set_option maxHeartbeats 400000 in
theorem rot_11 (x : Int) (w : World) (h : W32 x) : Calls Try.prog 74 #[.int .u32 x, .int .i64 11] w fun e w' => e = .returned (.int .u32 (rr 2097152 2048 x)) ∧ w = w' := by
  obtain ⟨h0, h1⟩ := h
  go_enter Try.func74, Try.ntmps74
  go_wp2_with (go_at_call 75; refine (rot75_11 x _ h0 h1).mono ?_; rintro e w' ⟨rfl, rfl⟩)
  go_ret
  exact ⟨rfl, rfl⟩
set_option maxRecDepth 100000 in
set_option maxHeartbeats 400000 in
theorem rot75_13 (x : Int) (w : World) (_h0 : 0 ≤ x) (_h1 : x ≤ 4294967295) : Calls Try.prog 75 #[.int .u32 x, .int .i64 (-13)] w fun e w' => e = .returned (.int .u32 (rr 524288 8192 x)) ∧ w = w' := by
  have hb : bits .and .u64 (IntKind.u64.wrap (-13)) 31 = 19 := by decide +kernel
  go_enter Try.func75, Try.ntmps75
  go_wp2_with fail
  go_ret
  exact ⟨rfl, rfl⟩
set_option maxRecDepth 100000 in
set_option maxHeartbeats 400000 in
theorem rot_13 (x : Int) (w : World) (h : W32 x) : Calls Try.prog 74 #[.int .u32 x, .int .i64 13] w fun e w' => e = .returned (.int .u32 (rr 524288 8192 x)) ∧ w = w' := by
  obtain ⟨h0, h1⟩ := h
  go_enter Try.func74, Try.ntmps74
  go_wp2_with (go_at_call 75; refine (rot75_13 x _ h0 h1).mono ?_; rintro e w' ⟨rfl, rfl⟩)
  go_ret
  exact ⟨rfl, rfl⟩
set_option maxRecDepth 100000 in
set_option maxHeartbeats 400000 in
theorem rot75_17 (x : Int) (w : World) (_h0 : 0 ≤ x) (_h1 : x ≤ 4294967295) : Calls Try.prog 75 #[.int .u32 x, .int .i64 (-17)] w fun e w' => e = .returned (.int .u32 (rr 32768 131072 x)) ∧ w = w' := by
  have hb : bits .and .u64 (IntKind.u64.wrap (-17)) 31 = 15 := by decide +kernel
  go_enter Try.func75, Try.ntmps75
  go_wp2_with fail
  go_ret
  exact ⟨rfl, rfl⟩
set_option maxRecDepth 100000 in
set_option maxHeartbeats 400000 in
theorem rot_17 (x : Int) (w : World) (h : W32 x) : Calls Try.prog 74 #[.int .u32 x, .int .i64 17] w fun e w' => e = .returned (.int .u32 (rr 32768 131072 x)) ∧ w = w' := by
  obtain ⟨h0, h1⟩ := h
  go_enter Try.func74, Try.ntmps74
  go_wp2_with (go_at_call 75; refine (rot75_17 x _ h0 h1).mono ?_; rintro e w' ⟨rfl, rfl⟩)
  go_ret
  exact ⟨rfl, rfl⟩
set_option maxRecDepth 100000 in
set_option maxHeartbeats 400000 in
theorem rot75_18 (x : Int) (w : World) (_h0 : 0 ≤ x) (_h1 : x ≤ 4294967295) : Calls Try.prog 75 #[.int .u32 x, .int .i64 (-18)] w fun e w' => e = .returned (.int .u32 (rr 16384 262144 x)) ∧ w = w' := by
  have hb : bits .and .u64 (IntKind.u64.wrap (-18)) 31 = 14 := by decide +kernel
  go_enter Try.func75, Try.ntmps75
  go_wp2_with fail
  go_ret
  exact ⟨rfl, rfl⟩
set_option maxRecDepth 100000 in
set_option maxHeartbeats 400000 in
theorem rot_18 (x : Int) (w : World) (h : W32 x) : Calls Try.prog 74 #[.int .u32 x, .int .i64 18] w fun e w' => e = .returned (.int .u32 (rr 16384 262144 x)) ∧ w = w' := by
  obtain ⟨h0, h1⟩ := h
  go_enter Try.func74, Try.ntmps74
  go_wp2_with (go_at_call 75; refine (rot75_18 x _ h0 h1).mono ?_; rintro e w' ⟨rfl, rfl⟩)
  go_ret
  exact ⟨rfl, rfl⟩
set_option maxRecDepth 100000 in
set_option maxHeartbeats 400000 in
theorem rot75_19 (x : Int) (w : World) (_h0 : 0 ≤ x) (_h1 : x ≤ 4294967295) : Calls Try.prog 75 #[.int .u32 x, .int .i64 (-19)] w fun e w' => e = .returned (.int .u32 (rr 8192 524288 x)) ∧ w = w' := by
  have hb : bits .and .u64 (IntKind.u64.wrap (-19)) 31 = 13 := by decide +kernel
  go_enter Try.func75, Try.ntmps75
  go_wp2_with fail
  go_ret
  exact ⟨rfl, rfl⟩
set_option maxRecDepth 100000 in
set_option maxHeartbeats 400000 in
theorem rot_19 (x : Int) (w : World) (h : W32 x) : Calls Try.prog 74 #[.int .u32 x, .int .i64 19] w fun e w' => e = .returned (.int .u32 (rr 8192 524288 x)) ∧ w = w' := by
  obtain ⟨h0, h1⟩ := h
  go_enter Try.func74, Try.ntmps74
  go_wp2_with (go_at_call 75; refine (rot75_19 x _ h0 h1).mono ?_; rintro e w' ⟨rfl, rfl⟩)
  go_ret
  exact ⟨rfl, rfl⟩
set_option maxRecDepth 100000 in
set_option maxHeartbeats 400000 in
theorem rot75_22 (x : Int) (w : World) (_h0 : 0 ≤ x) (_h1 : x ≤ 4294967295) : Calls Try.prog 75 #[.int .u32 x, .int .i64 (-22)] w fun e w' => e = .returned (.int .u32 (rr 1024 4194304 x)) ∧ w = w' := by
  have hb : bits .and .u64 (IntKind.u64.wrap (-22)) 31 = 10 := by decide +kernel
  go_enter Try.func75, Try.ntmps75
  go_wp2_with fail
  go_ret
  exact ⟨rfl, rfl⟩
set_option maxRecDepth 100000 in
set_option maxHeartbeats 400000 in
theorem rot_22 (x : Int) (w : World) (h : W32 x) : Calls Try.prog 74 #[.int .u32 x, .int .i64 22] w fun e w' => e = .returned (.int .u32 (rr 1024 4194304 x)) ∧ w = w' := by
  obtain ⟨h0, h1⟩ := h
  go_enter Try.func74, Try.ntmps74
  go_wp2_with (go_at_call 75; refine (rot75_22 x _ h0 h1).mono ?_; rintro e w' ⟨rfl, rfl⟩)
  go_ret
  exact ⟨rfl, rfl⟩
set_option maxRecDepth 100000 in
set_option maxHeartbeats 400000 in
theorem rot75_25 (x : Int) (w : World) (_h0 : 0 ≤ x) (_h1 : x ≤ 4294967295) : Calls Try.prog 75 #[.int .u32 x, .int .i64 (-25)] w fun e w' => e = .returned (.int .u32 (rr 128 33554432 x)) ∧ w = w' := by
  have hb : bits .and .u64 (IntKind.u64.wrap (-25)) 31 = 7 := by decide +kernel
  go_enter Try.func75, Try.ntmps75
  go_wp2_with fail
  go_ret
  exact ⟨rfl, rfl⟩
set_option maxRecDepth 100000 in
set_option maxHeartbeats 400000 in
theorem rot_25 (x : Int) (w : World) (h : W32 x) : Calls Try.prog 74 #[.int .u32 x, .int .i64 25] w fun e w' => e = .returned (.int .u32 (rr 128 33554432 x)) ∧ w = w' := by
  obtain ⟨h0, h1⟩ := h
  go_enter Try.func74, Try.ntmps74
  go_wp2_with (go_at_call 75; refine (rot75_25 x _ h0 h1).mono ?_; rintro e w' ⟨rfl, rfl⟩)
  go_ret
  exact ⟨rfl, rfl⟩
end Go.Proofs.Ytfodboooopkheaa
