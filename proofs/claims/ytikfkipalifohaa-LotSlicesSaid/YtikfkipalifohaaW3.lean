/- wide: products of 64 bits. -/
import Derived.Test.YtikfkipalifohaaW2
import Derived.Test.YtikfkipalifohaaB3
import Derived.Lib.Mul64
namespace Go.Proofs.Ytikfkipalifohaa
open Go Go.Proofs.Ytikfkipalifohaa.A
set_option maxRecDepth 100000
set_option maxHeartbeats 4000000
set_option linter.unusedSimpArgs false
set_option linter.unusedVariables false

/-- math/bits.Mul64's upper half, as the code has it. -/
def mulT (x y : Int) : Int := IntKind.u64.wrap (IntKind.u64.wrap (x.fdiv 4294967296 * bits .and .u64 y 4294967295) + (IntKind.u64.wrap (bits .and .u64 x 4294967295 * bits .and .u64 y 4294967295)).fdiv 4294967296)
def mulHi (x y : Int) : Int := IntKind.u64.wrap (IntKind.u64.wrap (IntKind.u64.wrap (x.fdiv 4294967296 * y.fdiv 4294967296) + (mulT x y).fdiv 4294967296) + (IntKind.u64.wrap (bits .and .u64 (mulT x y) 4294967295 + IntKind.u64.wrap (bits .and .u64 x 4294967295 * y.fdiv 4294967296))).fdiv 4294967296)
theorem mul64_ok (x y : Int) : FnOK Go.Proofs.Try.prog 34 [.d (.int .u64 x), .d (.int .u64 y)] (.tup [.d (.int .u64 (mulHi x y)), .d (.int .u64 (IntKind.u64.wrap (x * y)))]) [] := by
  refine fn_ok Go.Proofs.Try.func34 rfl (by kernel_rfl) mix Go.Proofs.Try.ntmps34 rfl (by kernel_rfl) (by kernel_rfl) ?_
  repeat' first
    | refine rx_nil ?_
    | refine pw_seq ?_
    | refine pt_region ?_
    | refine thenQ_n ?_
    | refine thenQ_r ?_
    | refine thenQ_e ?_
    | refine pw_ret ?_
    | refine pw_skip ?_
    | refine pw_label ?_
    | refine pw_exit ?_
    | refine pw_block ?_
    | refine blockQ_n ?_
    | refine blockQ_r ?_
    | refine blockQ_e ?_
    | refine blockQ_x rfl ?_
    | refine loopQ_e ?_
    | refine loopQ_r ?_
    | (refine pt_draw ?_)
    | (refine And.intro (by kernel_rfl) ?_)
    | (refine rx_movb (b := ?_) ?_ ?_; rotate_left 1; (focus (intro φ h; (simp; (try (simp (disch := omega) only [wrap_i64_id, wrap_u64_id, dl_get]; try simp))); with_reducible exact h)); intro c hc)
    | (refine rx (ok := true) (E' := ?_) (σ' := ?_) (nx' := ?_) (s := ?_) ?_ rfl ?_; rotate_left 4; (focus (intro φ h; (simp; (try (simp (disch := omega) only [wrap_i64_id, wrap_u64_id, dl_get]; try simp))); with_reducible exact h)))
    | (refine rx (ok := ?_) (E' := ?_) (σ' := ?_) (nx' := ?_) (s := ?_) ?_ ?_ ?_; rotate_left 5; (focus (intro φ h; (simp; (try (simp (disch := omega) only [wrap_i64_id, wrap_u64_id, dl_get]; try simp))); with_reducible exact h)); (focus (first | with_reducible rfl | (simp; done) | (simp; omega) | rfl)))
    | (refine rxg_movb (b := ?_) (b' := ?_) rfl ?_ ?_ ?_; rotate_left 2; (focus (intro φ h; (simp; (try (simp (disch := omega) only [wrap_i64_id, wrap_u64_id, dl_get]; try simp))); with_reducible exact h)); (focus (intro hw φ h; (try (have hq := Eq.trans (by assumption) hw; simp only [decide_eq_true_eq, decide_eq_false_iff_not, Bool.and_eq_true, Bool.or_eq_true, Bool.and_eq_false_iff, Bool.or_eq_false_iff, Bool.not_eq_true', Bool.not_eq_false'] at hq)); (simp [hw]; (try (simp (disch := omega) only [wrap_i64_id, wrap_u64_id, dl_get]; try simp))); with_reducible exact h)); intro c hc)
    | (refine rxg (ok := true) (x := ?_) (rd := ?_) (b := ?_) (E' := ?_) rfl ?_ ?_ (fun _ => rfl) ?_ ?_; rotate_left 4; (focus (intro φ h; (simp; (try (simp (disch := omega) only [wrap_i64_id, wrap_u64_id, dl_get]; try simp))); with_reducible exact h)); (focus (intro hw φ h; (try (have hq := Eq.trans (by assumption) hw; simp only [decide_eq_true_eq, decide_eq_false_iff_not, Bool.and_eq_true, Bool.or_eq_true, Bool.and_eq_false_iff, Bool.or_eq_false_iff, Bool.not_eq_true', Bool.not_eq_false'] at hq)); (simp [hw]; (try (simp (disch := omega) only [wrap_i64_id, wrap_u64_id, dl_get]; try simp))); with_reducible exact h)); (focus (intro φ h; (simp; (try (simp (disch := omega) only [wrap_i64_id, wrap_u64_id, dl_get]; try simp))); with_reducible exact h)))
    | (refine rxg2 (ok := true) (x := ?_) (rd := ?_) (b := ?_) (E' := ?_) (c0 := ?_) (w0 := ?_) rfl ?_ ?_ (fun _ => rfl) ?_ ?_; rotate_left 6; (focus (intro φ h; (simp; (try (simp (disch := omega) only [wrap_i64_id, wrap_u64_id, dl_get]; try simp))); with_reducible exact h)); (focus (intro hw φ h; obtain ⟨hw1, hw2⟩ := hw; (try (have hq1 := Eq.trans (by assumption) hw1; simp only [decide_eq_true_eq, decide_eq_false_iff_not, Bool.and_eq_true, Bool.or_eq_true, Bool.and_eq_false_iff, Bool.or_eq_false_iff, Bool.not_eq_true', Bool.not_eq_false'] at hq1)); (try (have hq2 := Eq.trans (by assumption) hw2; simp only [decide_eq_true_eq, decide_eq_false_iff_not, Bool.and_eq_true, Bool.or_eq_true, Bool.and_eq_false_iff, Bool.or_eq_false_iff, Bool.not_eq_true', Bool.not_eq_false'] at hq2)); (simp [hw1, hw2]; (try (simp (disch := omega) only [wrap_i64_id, wrap_u64_id, dl_get]; try simp))); with_reducible exact h)); (focus (intro φ h; (simp; (try (simp (disch := omega) only [wrap_i64_id, wrap_u64_id, dl_get]; try simp))); with_reducible exact h)))
    | (refine rxg (ok := ?_) (x := ?_) (rd := ?_) (b := ?_) (E' := ?_) rfl ?_ ?_ ?_ ?_ ?_; rotate_left 5; (focus (intro φ h; (simp; (try (simp (disch := omega) only [wrap_i64_id, wrap_u64_id, dl_get]; try simp))); with_reducible exact h)); (focus (intro hw φ h; (try (have hq := Eq.trans (by assumption) hw; simp only [decide_eq_true_eq, decide_eq_false_iff_not, Bool.and_eq_true, Bool.or_eq_true, Bool.and_eq_false_iff, Bool.or_eq_false_iff, Bool.not_eq_true', Bool.not_eq_false'] at hq)); (simp [hw]; (try (simp (disch := omega) only [wrap_i64_id, wrap_u64_id, dl_get]; try simp))); with_reducible exact h)); (focus (intro hw; (try (have hq := Eq.trans (by assumption) hw; simp only [decide_eq_true_eq, decide_eq_false_iff_not, Bool.and_eq_true, Bool.or_eq_true, Bool.and_eq_false_iff, Bool.or_eq_false_iff, Bool.not_eq_true', Bool.not_eq_false'] at hq)); (first | with_reducible rfl | (simp; done) | (simp; omega) | rfl | (simp (disch := omega); done)))); (focus (intro φ h; (simp; (try (simp (disch := omega) only [wrap_i64_id, wrap_u64_id, dl_get]; try simp))); with_reducible exact h)))
    | (refine rxg2 (ok := ?_) (x := ?_) (rd := ?_) (b := ?_) (E' := ?_) (c0 := ?_) (w0 := ?_) rfl ?_ ?_ ?_ ?_ ?_; rotate_left 7; (focus (intro φ h; (simp; (try (simp (disch := omega) only [wrap_i64_id, wrap_u64_id, dl_get]; try simp))); with_reducible exact h)); (focus (intro hw φ h; obtain ⟨hw1, hw2⟩ := hw; (try (have hq1 := Eq.trans (by assumption) hw1; simp only [decide_eq_true_eq, decide_eq_false_iff_not, Bool.and_eq_true, Bool.or_eq_true, Bool.and_eq_false_iff, Bool.or_eq_false_iff, Bool.not_eq_true', Bool.not_eq_false'] at hq1)); (try (have hq2 := Eq.trans (by assumption) hw2; simp only [decide_eq_true_eq, decide_eq_false_iff_not, Bool.and_eq_true, Bool.or_eq_true, Bool.and_eq_false_iff, Bool.or_eq_false_iff, Bool.not_eq_true', Bool.not_eq_false'] at hq2)); (simp [hw1, hw2]; (try (simp (disch := omega) only [wrap_i64_id, wrap_u64_id, dl_get]; try simp))); with_reducible exact h)); (focus (intro hw; obtain ⟨hw1, hw2⟩ := hw; (try (have hq1 := Eq.trans (by assumption) hw1; simp only [decide_eq_true_eq, decide_eq_false_iff_not, Bool.and_eq_true, Bool.or_eq_true, Bool.and_eq_false_iff, Bool.or_eq_false_iff, Bool.not_eq_true', Bool.not_eq_false'] at hq1)); (try (have hq2 := Eq.trans (by assumption) hw2; simp only [decide_eq_true_eq, decide_eq_false_iff_not, Bool.and_eq_true, Bool.or_eq_true, Bool.and_eq_false_iff, Bool.or_eq_false_iff, Bool.not_eq_true', Bool.not_eq_false'] at hq2)); (first | with_reducible rfl | (simp; done) | (simp; omega) | rfl | (simp (disch := omega); done)))); (focus (intro φ h; (simp; (try (simp (disch := omega) only [wrap_i64_id, wrap_u64_id, dl_get]; try simp))); with_reducible exact h)))
    | (refine pt_cond (b := ?_) ?_ ?_ ?_; rotate_left 1; (focus (intro φ h; (simp; (try (simp (disch := omega) only [wrap_i64_id, wrap_u64_id, dl_get]; try simp))); with_reducible exact h)))
    | (refine pt_end [] (by first | exact .inr rfl | exact .inl rfl) ?_ ?_ ?_ ?_; (focus (simp; done)); rotate_left 1; (focus (simp; done)); (focus (simp; done)))
    | (intro hb; first | cases hb | cases ((hb.symm.trans (by assumption)) : true = false) | cases ((hb.symm.trans (by assumption)) : false = true) | (simp only [decide_eq_true_eq, decide_eq_false_iff_not, Bool.and_eq_true, Bool.or_eq_true, Bool.and_eq_false_iff, Bool.or_eq_false_iff, Bool.not_eq_true', Bool.not_eq_false'] at hb) | skip)
  all_goals (simp [mulHi, mulT])

theorem nmask (a : Nat) (ha : a < 18446744073709551616) : bits .and .u64 (a : Int) 4294967295 = ((a % 4294967296 : Nat) : Int) := by
  rw [mask32 _ (by omega) (by omega)]; omega
theorem nfdiv (a : Nat) : (a : Int).fdiv 4294967296 = ((a / 4294967296 : Nat) : Int) := by
  rw [Int.fdiv_eq_ediv_of_nonneg _ (by omega)]; omega
theorem nmul (a b : Nat) : (a : Int) * (b : Int) = ((a * b : Nat) : Int) := (Int.natCast_mul a b).symm
theorem nadd (a b : Nat) : (a : Int) + (b : Int) = ((a + b : Nat) : Int) := (Int.natCast_add a b).symm
theorem nwrap (a : Nat) (ha : a < 18446744073709551616) : IntKind.u64.wrap (a : Int) = (a : Int) := by rw [IntKind.wrap_u64]; omega
theorem mulHi_eq (x y : Nat) (hx : x < 18446744073709551616) (hy : y < 18446744073709551616) : mulHi x y = ((x * y / 18446744073709551616 : Nat) : Int) := by
  obtain ⟨bd, bt, bw, hhi⟩ := Lib.mul64_hi x y hx hy
  have ba := Lib.half_mul_le (a := x / 4294967296) (b := y / 4294967296) (by omega) (by omega)
  have bb := Lib.half_mul_le (a := x / 4294967296) (b := y % 4294967296) (by omega) (by omega)
  have bc := Lib.half_mul_le (a := x % 4294967296) (b := y / 4294967296) (by omega) (by omega)
  have ba' : x / 4294967296 * (y / 4294967296) < 18446744073709551616 := by omega
  have bb' : x / 4294967296 * (y % 4294967296) < 18446744073709551616 := by omega
  have bc' : x % 4294967296 * (y / 4294967296) < 18446744073709551616 := by omega
  unfold mulHi mulT
  simp only [nmask x hx, nmask y hy, nfdiv, nmul, nadd, nwrap _ bd, nwrap _ bb', nwrap _ bt, nmask _ bt, nwrap _ bc', nwrap _ bw, nwrap _ ba']
  rw [nwrap _ (by omega), nadd, nwrap _ (by omega), hhi]
end Go.Proofs.Ytikfkipalifohaa
