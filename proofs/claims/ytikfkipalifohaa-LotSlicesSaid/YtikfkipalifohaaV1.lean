/- wide: numbers of 128 bits, by the numbers that they are. -/
import Derived.Test.YtikfkipalifohaaW4
import Derived.Test.YtikfkipalifohaaV0
namespace Go.Proofs.Ytikfkipalifohaa
open Go Go.Proofs.Ytikfkipalifohaa.A
set_option maxRecDepth 100000
set_option linter.unusedSimpArgs false
set_option linter.unusedVariables false

def wh (z : Int) : Int := z / 18446744073709551616
def wl (z : Int) : Int := z % 18446744073709551616
@[simp] def wz (z : Int) : List SV := [.d (.int .i64 (wh z)), .d (.int .u64 (wl z))]
/-- Of 128 bits. -/
def W128 (z : Int) : Prop := -170141183460469231731687303715884105728 ≤ z ∧ z < 170141183460469231731687303715884105728
instance (z : Int) : Decidable (W128 z) := by unfold W128; infer_instance
@[simp] theorem wh_zero : wh 0 = 0 := rfl
@[simp] theorem wl_zero : wl 0 = 0 := rfl
theorem W128.sm {z : Int} (h : W128 z) : Sm z := by unfold W128 at h; unfold Sm; omega
theorem I64.sm {z : Int} (h : I64 z) : Sm z := by unfold I64 at h; unfold Sm; omega
theorem wideOfV (x : Int) (h : I64 x) : FnOK Go.Proofs.Try.prog 8 [.d (.int .i64 x)] (.agg (wz x)) [] := by
  have := wideOf_ok x
  have e1 : x.fdiv 9223372036854775808 = wh x := by
    unfold I64 at h
    unfold wh
    rw [Int.fdiv_eq_ediv_of_nonneg _ (by omega)]
    omega
  have e2 : IntKind.u64.wrap x = wl x := by rw [IntKind.wrap_u64]; rfl
  rw [e1, e2] at this
  exact this
theorem cmpW_val (a b : Int) : cmpW (wh a) (wl a) (wh b) (wl b) = (a - b).sign := by
  unfold cmpW
  simp only [Bool.or_eq_true, Bool.and_eq_true, decide_eq_true_eq, beq_iff_eq]
  unfold wh wl
  split
  · rw [Int.sign_eq_neg_one_of_neg (by omega)]
  · split
    · have : a - b = 0 := by omega
      rw [this]; rfl
    · rw [Int.sign_eq_one_of_pos (by omega)]
theorem wideCmpV (a b : Int) : FnOK Go.Proofs.Try.prog 16 [.agg (wz a), .agg (wz b)] (.d (.int .i64 (a - b).sign)) [] := by
  have := wideCmp_ok (wh a) (wl a) (wh b) (wl b)
  rw [cmpW_val] at this
  exact this
theorem wideSignV (a : Int) : FnOK Go.Proofs.Try.prog 15 [.agg (wz a)] (.d (.int .i64 a.sign)) [] := by
  have := wideSign_ok (wh a) (wl a)
  rw [show (cmpW (wh a) (wl a) 0 0) = cmpW (wh a) (wl a) (wh 0) (wl 0) from rfl, cmpW_val, Int.sub_zero] at this
  exact this
theorem sizeI_val (x : Int) (h : I64 x) : sizeI x = (x.natAbs : Int) := absU_val x h.1 h.2
theorem signed_val (neg : Bool) (p : Int) (h0 : 0 ≤ p) (h1 : p < 340282366920938463463374607431768211456) :
    let z := if neg then -p else p
    sgH neg (wh p) (wl p) = (if W128 z then wh z else 0) ∧ sgL neg (wh p) (wl p) = (if W128 z then wl z else 0) ∧ (sgO neg (wh p) (wl p) = true ↔ W128 z) := by
  intro z
  have hz : z = if neg then -p else p := rfl
  clear_value z
  unfold sgH sgL sgO
  cases neg
  · simp at hz
    subst hz
    rw [if_pos rfl, if_pos rfl, if_pos rfl]
    have hW : W128 z ↔ ¬ 9223372036854775808 ≤ wh z := by unfold W128 wh; omega
    by_cases hk : 9223372036854775808 ≤ wh z
    · rw [if_pos hk, if_pos hk, if_neg (by rw [hW]; omega), if_neg (by rw [hW]; omega)]
      simp [hk, hW]
    · rw [if_neg hk, if_neg hk, if_pos (hW.2 hk), if_pos (hW.2 hk), wrap_i64_id _ (by unfold wh; omega) (by omega)]
      simp [hk, hW]
  · simp at hz
    subst hz
    simp only [Bool.true_eq_false, if_false]
    have hW : W128 (-p) ↔ ¬ (9223372036854775808 < wh p ∨ wh p = 9223372036854775808 ∧ 0 < wl p) := by unfold W128 wh wl; omega
    by_cases hk : 9223372036854775808 < wh p ∨ wh p = 9223372036854775808 ∧ 0 < wl p
    · rw [if_pos hk, if_pos hk, if_neg (by rw [hW]; exact fun h => h hk), if_neg (by rw [hW]; exact fun h => h hk)]
      simp [hk, hW]
    · rw [if_neg hk, if_neg hk, if_pos (hW.2 hk), if_pos (hW.2 hk), IntKind.wrap_i64]
      refine ⟨?_, by unfold wl; omega, ?_⟩
      · unfold wh wl at *
        split <;> omega
      · rw [decide_eq_false hk]
        exact ⟨fun _ => hW.2 hk, fun _ => rfl⟩
theorem sizes_mul (a b : Int) (ha : I64 a) (hb : I64 b) : 0 ≤ (a.natAbs : Int) * (b.natAbs : Int) ∧ (a.natAbs : Int) * (b.natAbs : Int) ≤ 85070591730234615865843651857942052864 := by
  unfold I64 at ha hb
  refine ⟨Int.mul_nonneg (by omega) (by omega), ?_⟩
  exact Int.le_trans (Int.mul_le_mul (show (a.natAbs : Int) ≤ 9223372036854775808 by omega) (show (b.natAbs : Int) ≤ 9223372036854775808 by omega) (by omega) (by omega)) (by omega)
theorem sign_mul (a b : Int) : (if mulNeg a b then -((a.natAbs : Int) * (b.natAbs : Int)) else (a.natAbs : Int) * (b.natAbs : Int)) = a * b := by
  unfold mulNeg
  by_cases ha : a < 0 <;> by_cases hb : b < 0
  · have e1 : (a.natAbs : Int) = -a := by omega
    have e2 : (b.natAbs : Int) = -b := by omega
    simp [ha, hb, e1, e2, Int.neg_mul, Int.mul_neg]
  · have e1 : (a.natAbs : Int) = -a := by omega
    have e2 : (b.natAbs : Int) = b := by omega
    simp [ha, hb, e1, e2, Int.neg_mul, Int.mul_neg]
  · have e1 : (a.natAbs : Int) = a := by omega
    have e2 : (b.natAbs : Int) = -b := by omega
    simp [ha, hb, e1, e2, Int.neg_mul, Int.mul_neg]
  · have e1 : (a.natAbs : Int) = a := by omega
    have e2 : (b.natAbs : Int) = b := by omega
    simp [ha, hb, e1, e2, Int.neg_mul, Int.mul_neg]
theorem mul_rng (a b : Int) (ha : I64 a) (hb : I64 b) : -85070591730234615865843651857942052864 ≤ a * b ∧ a * b ≤ 85070591730234615865843651857942052864 := by
  have h := sizes_mul a b ha hb
  have h2 := sign_mul a b
  split at h2 <;> omega
theorem mulW_val (a b : Int) (ha : I64 a) (hb : I64 b) : mulW a b = (wh (a * b), wl (a * b)) := by
  have hs := sizes_mul a b ha hb
  have h2 := sign_mul a b
  have hr := mul_rng a b ha hb
  unfold mulW
  rw [sizeI_val a ha, sizeI_val b hb, mulHi_eq a.natAbs b.natAbs (by unfold I64 at ha; omega) (by unfold I64 at hb; omega), IntKind.wrap_u64]
  have e1 : ((a.natAbs * b.natAbs / 18446744073709551616 : Nat) : Int) = wh ((a.natAbs : Int) * (b.natAbs : Int)) := by
    unfold wh
    rw [Int.natCast_ediv, Int.natCast_mul]
    rfl
  have e2 : ((a.natAbs : Int) * (b.natAbs : Int)) % 18446744073709551616 = wl ((a.natAbs : Int) * (b.natAbs : Int)) := rfl
  have h3 := signed_val (mulNeg a b) ((a.natAbs : Int) * (b.natAbs : Int)) hs.1 (by omega)
  simp only [h2] at h3
  have hw : W128 (a * b) := by unfold W128; omega
  rw [if_pos hw, if_pos hw] at h3
  rw [e1, e2, h3.1, h3.2.1]
theorem wideMulV (a b : Int) (ha : I64 a) (hb : I64 b) : FnOK Go.Proofs.Try.prog 17 [.d (.int .i64 a), .d (.int .i64 b)] (.agg (wz (a * b))) [] := by
  have := wideMul_ok a b
  rw [mulW_val a b ha hb] at this
  exact this
end Go.Proofs.Ytikfkipalifohaa
