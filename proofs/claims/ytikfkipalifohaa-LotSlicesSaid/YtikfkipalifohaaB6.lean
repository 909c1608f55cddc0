/- novationref1's numbers: products. -/
import Derived.Test.YtikfkipalifohaaV0
namespace Go.Proofs.Ytikfkipalifohaa
open Go Go.Proofs.Ytikfkipalifohaa.A
set_option maxRecDepth 100000
set_option maxHeartbeats 4000000
set_option linter.unusedSimpArgs false
set_option linter.unusedVariables false

theorem dig_cons_succ (x : Int) (a : List Int) (k : Nat) : dig (x :: a) (k + 1) = dig a k := by simp [dig]
theorem dig_cons_zero (x : Int) (a : List Int) : dig (x :: a) 0 = x := by simp [dig]
theorem valL_set : ∀ (a : List Int) (k : Nat) (v : Int), k < a.length → valL (a.set k v) = valL a + 4294967296 ^ k * (v - dig a k)
  | [], k, v, h => by simp at h
  | x :: a, 0, v, h => by
    simp only [List.set_cons_zero, valL, dig_cons_zero, Int.pow_zero, Int.one_mul]
    omega
  | x :: a, k + 1, v, h => by
    have ih := valL_set a k v (by simpa using h)
    simp only [List.set_cons_succ, valL, dig_cons_succ, ih, Int.pow_succ]
    rw [Int.mul_add, ← Int.mul_assoc 4294967296, Int.mul_comm 4294967296 (4294967296 ^ k)]
    omega
theorem DOK.set {a : List Int} (h : DOK a) {v : Int} (h0 : 0 ≤ v) (h1 : v < 4294967296) (k : Nat) : DOK (a.set k v) := by
  intro d hd
  rcases List.mem_or_eq_of_mem_set hd with hd | rfl
  · exact h d hd
  · exact ⟨h0, h1⟩
theorem take_valL (b : List Int) (j : Nat) (h : j < b.length) : valL (b.take (j + 1)) = valL (b.take j) + 4294967296 ^ j * dig b j := by
  rw [take_dig b j h, valL_append, List.length_take, Nat.min_eq_left (by omega)]
  simp [valL]
theorem mul_lt {x y p q : Int} (hx : 0 ≤ x) (hy : 0 ≤ y) (hp : x < p) (hq : y < q) : x * y < p * q := by
  have h1 := Int.mul_le_mul_of_nonneg_left (Int.le_of_lt hq) hx
  have h2 := Int.mul_lt_mul_of_pos_right hp (show 0 < q by omega)
  omega
theorem carry0 {c V W p : Int} (hp : 0 < p) (hc : 0 ≤ c) (hV : 0 ≤ V) (h : V + c * p = W) (hW : W < p) : c = 0 := by
  by_cases h1 : c = 0
  · exact h1
  · have := Int.mul_le_mul_of_nonneg_right (show (1 : Int) ≤ c by omega) (Int.le_of_lt hp)
    omega
/-- What the inner rounds keep. -/
def TIn (a b out0 : List Int) (i j : Nat) (c : Int) (out : List Int) : Prop :=
  j ≤ b.length + 1 ∧ (b.length < j → c = 0) ∧ 0 ≤ c ∧ c < 4294967296 ∧ out.length = a.length + b.length + 1 ∧ DOK out ∧ valL out + c * 4294967296 ^ (i + j) = valL out0 + 4294967296 ^ i * dig a i * valL (b.take j)
theorem TIn.step {a b out0 out : List Int} {i j : Nat} {c : Int} (ka : DOK a) (kb : DOK b) (hi : i < a.length) (h0 : valL out0 = valL (a.take i) * valL b) (hj : j ≤ b.length) (h : TIn a b out0 i j c out) :
    TIn a b out0 i (j + 1) ((c + (dig out (i + j) + dig a i * dig b j)) / 4294967296) (out.set (i + j) ((c + (dig out (i + j) + dig a i * dig b j)) % 4294967296)) ∧
      0 ≤ c + (dig out (i + j) + dig a i * dig b j) ∧ c + (dig out (i + j) + dig a i * dig b j) < 18446744073709551616 ∧ 0 ≤ dig a i * dig b j ∧ dig a i * dig b j < 18446744065119617026 := by
  obtain ⟨h1, h2, h3, h4, h5, h6, h7⟩ := h
  have da := ka.dig i
  have db := kb.dig j
  have do' := h6.dig (i + j)
  have hm := Int.mul_le_mul (show dig a i ≤ 4294967295 by omega) (show dig b j ≤ 4294967295 by omega) db.1 (by omega)
  have hm0 := Int.mul_nonneg da.1 db.1
  generalize hx : c + (dig out (i + j) + dig a i * dig b j) = x
  have hx0 : 0 ≤ x := by omega
  have hx1 : x < 18446744073709551616 := by omega
  have hlt : i + j < out.length := by omega
  have hv : valL (out.set (i + j) (x % 4294967296)) + x / 4294967296 * 4294967296 ^ (i + (j + 1)) = valL out0 + 4294967296 ^ i * dig a i * valL (b.take (j + 1)) := by
    have hb : valL (b.take (j + 1)) = valL (b.take j) + 4294967296 ^ j * dig b j := by
      by_cases hjl : j < b.length
      · exact take_valL b j hjl
      · have e1 : b.take (j + 1) = b := List.take_of_length_le (by omega)
        have e2 : b.take j = b := List.take_of_length_le (by omega)
        rw [e1, e2, (dig_out b j (by omega)).1, Int.mul_zero, Int.add_zero]
    rw [valL_set _ _ _ hlt, hb, Int.mul_add, ← Int.add_assoc, ← h7, ← Nat.add_assoc, Int.pow_succ]
    have e3 : 4294967296 ^ i * dig a i * (4294967296 ^ j * dig b j) = 4294967296 ^ (i + j) * (dig a i * dig b j) := by
      rw [Int.pow_add, Int.mul_assoc, Int.mul_assoc, Int.mul_left_comm (dig a i)]
    rw [e3]
    generalize (4294967296 : Int) ^ (i + j) = p at *
    have e4 : x % 4294967296 = x - 4294967296 * (x / 4294967296) := by omega
    rw [e4]
    have e5 : x - 4294967296 * (x / 4294967296) - dig out (i + j) = c + dig a i * dig b j - 4294967296 * (x / 4294967296) := by omega
    rw [e5, Int.mul_sub, Int.mul_add]
    have e6 : x / 4294967296 * (p * 4294967296) = p * (4294967296 * (x / 4294967296)) := by
      rw [Int.mul_comm, Int.mul_assoc]
    rw [e6, Int.mul_comm c p]
    omega
  refine ⟨⟨by omega, fun hgt => ?_, by omega, by omega, by simpa using h5, h6.set (by omega) (by omega) _, hv⟩, hx0, hx1, hm0, by omega⟩
  have hjb : j = b.length := by omega
  subst hjb
  have e1 : b.take (b.length + 1) = b := List.take_of_length_le (by omega)
  rw [e1, h0] at hv
  have ht := take_valL a i hi
  have ta : DOK (a.take (i + 1)) := fun d hd => ka d (List.mem_of_mem_take hd)
  have t1 := valL_lt ta
  have t0 := valL_nonneg ta
  rw [List.length_take, Nat.min_eq_left (by omega)] at t1
  have hl := mul_lt t0 (valL_nonneg kb) t1 (valL_lt kb)
  rw [← Int.pow_add] at hl
  refine carry0 (V := valL (out.set (i + b.length) (x % 4294967296))) (W := valL (a.take (i + 1)) * valL b) (p := 4294967296 ^ (i + 1 + b.length)) (pow_pos _) (by omega) (valL_nonneg (h6.set (by omega) (by omega) _)) ?_ hl
  rw [show i + 1 + b.length = i + (b.length + 1) by omega, hv, ht, Int.add_mul]
theorem TIn.done {a b out0 out : List Int} {i j : Nat} (hi : i < a.length) (h0 : valL out0 = valL (a.take i) * valL b) (hj : b.length ≤ j) (h : TIn a b out0 i j 0 out) : out.length = a.length + b.length + 1 ∧ DOK out ∧ valL out = valL (a.take (i + 1)) * valL b := by
  obtain ⟨h1, h2, h3, h4, h5, h6, h7⟩ := h
  refine ⟨h5, h6, ?_⟩
  rw [List.take_of_length_le hj, Int.zero_mul, Int.add_zero, h0] at h7
  rw [h7, take_valL a i hi, Int.add_mul]
theorem zeros_val : ∀ n : Nat, valL (List.replicate n 0) = 0 ∧ DOK (List.replicate n 0)
  | 0 => ⟨rfl, DOK.nil⟩
  | n + 1 => by
    obtain ⟨h1, h2⟩ := zeros_val n
    refine ⟨by simp [List.replicate_succ, valL, h1], ?_⟩
    intro d hd
    rw [List.mem_replicate] at hd
    omega
@[simp] theorem dl_rep (n : Nat) (x : Int) : List.replicate n [PV.int .u64 x] = dl (List.replicate n x) := by simp [dl]
@[simp] theorem dl_set (a : List Int) (i : Nat) (v : Int) : (dl a).set i [PV.int .u64 v] = dl (a.set i v) := by simp [dl, List.map_set]
theorem ng_mul (x y : Int) (h : x * y ≠ 0) : (!(ng x == ng y)) = ng (x * y) := by
  have hx : x ≠ 0 := fun e => h (by rw [e, Int.zero_mul])
  have hy : y ≠ 0 := fun e => h (by rw [e, Int.mul_zero])
  unfold ng
  by_cases h1 : x < 0 <;> by_cases h2 : y < 0
  · have := Int.mul_pos_of_neg_of_neg h1 h2
    simp [h1, h2]
    omega
  · have := Int.mul_neg_of_neg_of_pos h1 (show 0 < y by omega)
    simp [h1, h2]
    omega
  · have := Int.mul_neg_of_pos_of_neg (show 0 < x by omega) h2
    simp [h1, h2]
    omega
  · have := Int.mul_pos (show 0 < x by omega) (show 0 < y by omega)
    simp [h1, h2]
    omega

theorem dig_mul_rng {a b : List Int} (ka : DOK a) (kb : DOK b) (i j : Nat) : 0 ≤ dig a i * dig b j ∧ dig a i * dig b j ≤ 18446744065119617025 := by
  have da := ka.dig i
  have db := kb.dig j
  exact ⟨Int.mul_nonneg da.1 db.1, Int.mul_le_mul (show dig a i ≤ 4294967295 by omega) (show dig b j ≤ 4294967295 by omega) db.1 (by omega)⟩
theorem timesV (x y : Int) (hx : Sm x) (hy : Sm y) : FnOK Go.Proofs.Try.prog 20 [.agg (bg x), .agg (bg y)] (.agg (bg (x * y))) [] := by
  simp only [bg, mg]
  have la : (dgN x.natAbs).length ≤ 8 := hx.len
  have lb : (dgN y.natAbs).length ≤ 8 := hy.len
  obtain ⟨ka, ta, va⟩ := dgN_all x.natAbs
  obtain ⟨kb, tb, vb⟩ := dgN_all y.natAbs
  generalize dgN x.natAbs = a at *
  generalize dgN y.natAbs = b at *
  refine fn_ok Go.Proofs.Try.func20 rfl (by kernel_rfl) mix Go.Proofs.Try.ntmps20 rfl (by kernel_rfl) (by kernel_rfl) ?_
  repeat' first
    | refine rx_nil ?_
    | refine pw_seq ?_
    | refine pt_region ?_
    | refine thenQ_n ?_
    | refine thenQ_r ?_
    | refine thenQ_e ?_
    | refine pw_ret ?_
    | refine pw_skip ?_
    | refine pw_label ?_
    | refine pw_exit ?_
    | refine pw_block ?_
    | refine blockQ_n ?_
    | refine blockQ_r ?_
    | refine blockQ_e ?_
    | refine blockQ_x rfl ?_
    | refine loopQ_e ?_
    | refine loopQ_r ?_
    | (refine pt_draw ?_)
    | (refine And.intro (by kernel_rfl) ?_)
    | (refine rx_movb (b := ?_) ?_ ?_; rotate_left 1; (focus (intro φ h; (simp; (try (simp (disch := omega) only [wrap_i64_id, wrap_u64_id, dl_get]; try simp))); with_reducible exact h)); intro c hc)
    | (refine rx (ok := true) (E' := ?_) (σ' := ?_) (nx' := ?_) (s := ?_) ?_ rfl ?_; rotate_left 4; (focus (intro φ h; (simp; (try (simp (disch := omega) only [wrap_i64_id, wrap_u64_id, dl_get]; try simp))); with_reducible exact h)))
    | (refine rx (ok := ?_) (E' := ?_) (σ' := ?_) (nx' := ?_) (s := ?_) ?_ ?_ ?_; rotate_left 5; (focus (intro φ h; (simp; (try (simp (disch := omega) only [wrap_i64_id, wrap_u64_id, dl_get]; try simp))); with_reducible exact h)); (focus (first | with_reducible rfl | (simp; done) | (simp; omega) | rfl)))
    | (refine rxg_movb (b := ?_) (b' := ?_) rfl ?_ ?_ ?_; rotate_left 2; (focus (intro φ h; (simp; (try (simp (disch := omega) only [wrap_i64_id, wrap_u64_id, dl_get]; try simp))); with_reducible exact h)); (focus (intro hw φ h; (try (have hq := Eq.trans (by assumption) hw; simp only [decide_eq_true_eq, decide_eq_false_iff_not, Bool.and_eq_true, Bool.or_eq_true, Bool.and_eq_false_iff, Bool.or_eq_false_iff, Bool.not_eq_true', Bool.not_eq_false'] at hq)); (simp [hw]; (try (simp (disch := omega) only [wrap_i64_id, wrap_u64_id, dl_get]; try simp))); with_reducible exact h)); intro c hc)
    | (refine rxg (ok := true) (x := ?_) (rd := ?_) (b := ?_) (E' := ?_) rfl ?_ ?_ (fun _ => rfl) ?_ ?_; rotate_left 4; (focus (intro φ h; (simp; (try (simp (disch := omega) only [wrap_i64_id, wrap_u64_id, dl_get]; try simp))); with_reducible exact h)); (focus (intro hw φ h; (try (have hq := Eq.trans (by assumption) hw; simp only [decide_eq_true_eq, decide_eq_false_iff_not, Bool.and_eq_true, Bool.or_eq_true, Bool.and_eq_false_iff, Bool.or_eq_false_iff, Bool.not_eq_true', Bool.not_eq_false'] at hq)); (simp [hw]; (try (simp (disch := omega) only [wrap_i64_id, wrap_u64_id, dl_get]; try simp))); with_reducible exact h)); (focus (intro φ h; (simp; (try (simp (disch := omega) only [wrap_i64_id, wrap_u64_id, dl_get]; try simp))); with_reducible exact h)))
    | (refine rxg2 (ok := true) (x := ?_) (rd := ?_) (b := ?_) (E' := ?_) (c0 := ?_) (w0 := ?_) rfl ?_ ?_ (fun _ => rfl) ?_ ?_; rotate_left 6; (focus (intro φ h; (simp; (try (simp (disch := omega) only [wrap_i64_id, wrap_u64_id, dl_get]; try simp))); with_reducible exact h)); (focus (intro hw φ h; obtain ⟨hw1, hw2⟩ := hw; (try (have hq1 := Eq.trans (by assumption) hw1; simp only [decide_eq_true_eq, decide_eq_false_iff_not, Bool.and_eq_true, Bool.or_eq_true, Bool.and_eq_false_iff, Bool.or_eq_false_iff, Bool.not_eq_true', Bool.not_eq_false'] at hq1)); (try (have hq2 := Eq.trans (by assumption) hw2; simp only [decide_eq_true_eq, decide_eq_false_iff_not, Bool.and_eq_true, Bool.or_eq_true, Bool.and_eq_false_iff, Bool.or_eq_false_iff, Bool.not_eq_true', Bool.not_eq_false'] at hq2)); (simp [hw1, hw2]; (try (simp (disch := omega) only [wrap_i64_id, wrap_u64_id, dl_get]; try simp))); with_reducible exact h)); (focus (intro φ h; (simp; (try (simp (disch := omega) only [wrap_i64_id, wrap_u64_id, dl_get]; try simp))); with_reducible exact h)))
    | (refine rxg (ok := ?_) (x := ?_) (rd := ?_) (b := ?_) (E' := ?_) rfl ?_ ?_ ?_ ?_ ?_; rotate_left 5; (focus (intro φ h; (simp; (try (simp (disch := omega) only [wrap_i64_id, wrap_u64_id, dl_get]; try simp))); with_reducible exact h)); (focus (intro hw φ h; (try (have hq := Eq.trans (by assumption) hw; simp only [decide_eq_true_eq, decide_eq_false_iff_not, Bool.and_eq_true, Bool.or_eq_true, Bool.and_eq_false_iff, Bool.or_eq_false_iff, Bool.not_eq_true', Bool.not_eq_false'] at hq)); (simp [hw]; (try (simp (disch := omega) only [wrap_i64_id, wrap_u64_id, dl_get]; try simp))); with_reducible exact h)); (focus (intro hw; (try (have hq := Eq.trans (by assumption) hw; simp only [decide_eq_true_eq, decide_eq_false_iff_not, Bool.and_eq_true, Bool.or_eq_true, Bool.and_eq_false_iff, Bool.or_eq_false_iff, Bool.not_eq_true', Bool.not_eq_false'] at hq)); (first | with_reducible rfl | (simp; done) | (simp; omega) | rfl | (simp (disch := omega); done)))); (focus (intro φ h; (simp; (try (simp (disch := omega) only [wrap_i64_id, wrap_u64_id, dl_get]; try simp))); with_reducible exact h)))
    | (refine rxg2 (ok := ?_) (x := ?_) (rd := ?_) (b := ?_) (E' := ?_) (c0 := ?_) (w0 := ?_) rfl ?_ ?_ ?_ ?_ ?_; rotate_left 7; (focus (intro φ h; (simp; (try (simp (disch := omega) only [wrap_i64_id, wrap_u64_id, dl_get]; try simp))); with_reducible exact h)); (focus (intro hw φ h; obtain ⟨hw1, hw2⟩ := hw; (try (have hq1 := Eq.trans (by assumption) hw1; simp only [decide_eq_true_eq, decide_eq_false_iff_not, Bool.and_eq_true, Bool.or_eq_true, Bool.and_eq_false_iff, Bool.or_eq_false_iff, Bool.not_eq_true', Bool.not_eq_false'] at hq1)); (try (have hq2 := Eq.trans (by assumption) hw2; simp only [decide_eq_true_eq, decide_eq_false_iff_not, Bool.and_eq_true, Bool.or_eq_true, Bool.and_eq_false_iff, Bool.or_eq_false_iff, Bool.not_eq_true', Bool.not_eq_false'] at hq2)); (simp [hw1, hw2]; (try (simp (disch := omega) only [wrap_i64_id, wrap_u64_id, dl_get]; try simp))); with_reducible exact h)); (focus (intro hw; obtain ⟨hw1, hw2⟩ := hw; (try (have hq1 := Eq.trans (by assumption) hw1; simp only [decide_eq_true_eq, decide_eq_false_iff_not, Bool.and_eq_true, Bool.or_eq_true, Bool.and_eq_false_iff, Bool.or_eq_false_iff, Bool.not_eq_true', Bool.not_eq_false'] at hq1)); (try (have hq2 := Eq.trans (by assumption) hw2; simp only [decide_eq_true_eq, decide_eq_false_iff_not, Bool.and_eq_true, Bool.or_eq_true, Bool.and_eq_false_iff, Bool.or_eq_false_iff, Bool.not_eq_true', Bool.not_eq_false'] at hq2)); (first | with_reducible rfl | (simp; done) | (simp; omega) | rfl | (simp (disch := omega); done)))); (focus (intro φ h; (simp; (try (simp (disch := omega) only [wrap_i64_id, wrap_u64_id, dl_get]; try simp))); with_reducible exact h)))
    | (refine pt_cond (b := ?_) ?_ ?_ ?_; rotate_left 1; (focus (intro φ h; (simp; (try (simp (disch := omega) only [wrap_i64_id, wrap_u64_id, dl_get]; try simp))); with_reducible exact h)))
    | (refine pt_end [] (by first | exact .inr rfl | exact .inl rfl) ?_ ?_ ?_ ?_; (focus (simp; done)); rotate_left 1; (focus (simp; done)); (focus (simp; done)))
    | (intro hb; first | cases hb | cases ((hb.symm.trans (by assumption)) : true = false) | cases ((hb.symm.trans (by assumption)) : false = true) | (simp only [decide_eq_true_eq, decide_eq_false_iff_not, Bool.and_eq_true, Bool.or_eq_true, Bool.and_eq_false_iff, Bool.or_eq_false_iff, Bool.not_eq_true', Bool.not_eq_false'] at hb) | skip)
  refine pt_loop (fun s : Nat × List Int => [(2, .ptr 2 0), (3, .ptr 3 0), (4, .ptr 4 0), (5, .own 10), (6, .d (.int .i64 s.1))]) (fun s => [(2, some (.box [.d (.bool (ng x)), .d (.list (dl a))])), (3, some (.box [.d (.bool (ng y)), .d (.list (dl b))])), (4, some (.box [.d (.bool false), .nils])), (10, some (.row 22 1 (dl s.2)))]) 11
    (fun s => s.1 ≤ a.length ∧ s.2.length = a.length + b.length + 1 ∧ DOK s.2 ∧ valL s.2 = valL (a.take s.1) * valL b) (fun s => a.length - s.1) (0, List.replicate (a.length + b.length + 1) 0) ⟨by simp, by simp, (zeros_val _).2, by simp [(zeros_val _).1, valL]⟩ (wk_ren [(10, some 5)] (by simp) (by simp; congr 2) (by simp)) ?_
  rintro ⟨i, out0⟩ ⟨h1, h2, h3, h4⟩
  simp only at h1 h2 h3 h4 ⊢
  repeat' first
    | refine rx_nil ?_
    | refine pw_seq ?_
    | refine pt_region ?_
    | refine thenQ_n ?_
    | refine thenQ_r ?_
    | refine thenQ_e ?_
    | refine pw_ret ?_
    | refine pw_skip ?_
    | refine pw_label ?_
    | refine pw_exit ?_
    | refine pw_block ?_
    | refine blockQ_n ?_
    | refine blockQ_r ?_
    | refine blockQ_e ?_
    | refine blockQ_x rfl ?_
    | refine loopQ_e ?_
    | refine loopQ_r ?_
    | (refine pt_draw ?_)
    | (refine And.intro (by kernel_rfl) ?_)
    | (refine rx_movb (b := ?_) ?_ ?_; rotate_left 1; (focus (intro φ h; (simp; (try (simp (disch := omega) only [wrap_i64_id, wrap_u64_id, dl_get]; try simp))); with_reducible exact h)); intro c hc)
    | (refine rxc [false, false] (xs := ?_) (ys := ?_) (r := ?_) (R := ?_) (s := ?_) (E' := ?_) (σ' := ?_) (nx' := ?_) rfl ?_ ?_ ?_ ?_; rotate_left 8; (focus (intro φ h; (simp; (try (simp (disch := omega) only [wrap_i64_id, wrap_u64_id, dl_get]; try simp))); with_reducible exact h)); (focus (first | (refine made_ok _ _ ?_; omega))); (focus (intro φ h; (simp; (try (simp (disch := omega) only [wrap_i64_id, wrap_u64_id, dl_get]; try simp))); with_reducible exact h)))
    | (refine rx (ok := true) (E' := ?_) (σ' := ?_) (nx' := ?_) (s := ?_) ?_ rfl ?_; rotate_left 4; (focus (intro φ h; (simp; (try (simp (disch := omega) only [wrap_i64_id, wrap_u64_id, dl_get]; try simp))); with_reducible exact h)))
    | (refine rx (ok := ?_) (E' := ?_) (σ' := ?_) (nx' := ?_) (s := ?_) ?_ ?_ ?_; rotate_left 5; (focus (intro φ h; (simp; (try (simp (disch := omega) only [wrap_i64_id, wrap_u64_id, dl_get]; try simp))); with_reducible exact h)); (focus (first | with_reducible rfl | (simp; done) | (simp; omega) | rfl)))
    | (refine rxg_movb (b := ?_) (b' := ?_) rfl ?_ ?_ ?_; rotate_left 2; (focus (intro φ h; (simp; (try (simp (disch := omega) only [wrap_i64_id, wrap_u64_id, dl_get]; try simp))); with_reducible exact h)); (focus (intro hw φ h; (try (have hq := Eq.trans (by assumption) hw; simp only [decide_eq_true_eq, decide_eq_false_iff_not, Bool.and_eq_true, Bool.or_eq_true, Bool.and_eq_false_iff, Bool.or_eq_false_iff, Bool.not_eq_true', Bool.not_eq_false'] at hq)); (simp [hw]; (try (simp (disch := omega) only [wrap_i64_id, wrap_u64_id, dl_get]; try simp))); with_reducible exact h)); intro c hc)
    | (refine rxcg [false, false] (xs := ?_) (ys := ?_) (r := ?_) (x := ?_) (R := ?_) (rd := ?_) (b := ?_) (E' := ?_) rfl ?_ rfl ?_ ?_ ?_ ?_ ?_; rotate_left 8; (focus (intro φ h; (simp; (try (simp (disch := omega) only [wrap_i64_id, wrap_u64_id, dl_get]; try simp))); with_reducible exact h)); (focus (intro hw φ h; (try (have hq := Eq.trans (by assumption) hw; simp only [decide_eq_true_eq, decide_eq_false_iff_not, Bool.and_eq_true, Bool.or_eq_true, Bool.and_eq_false_iff, Bool.or_eq_false_iff, Bool.not_eq_true', Bool.not_eq_false'] at hq)); (simp [hw]; (try (simp (disch := omega) only [wrap_i64_id, wrap_u64_id, dl_get]; try simp))); with_reducible exact h)); (focus (intro hw; (try (have hq := Eq.trans (by assumption) hw; simp only [decide_eq_true_eq, decide_eq_false_iff_not, Bool.and_eq_true, Bool.or_eq_true, Bool.and_eq_false_iff, Bool.or_eq_false_iff, Bool.not_eq_true', Bool.not_eq_false'] at hq)); first | (refine made_ok _ _ ?_; omega))); (focus (intro φ h; (simp; (try (simp (disch := omega) only [wrap_i64_id, wrap_u64_id, dl_get]; try simp))); with_reducible exact h)); (focus (intro φ h; (simp; (try (simp (disch := omega) only [wrap_i64_id, wrap_u64_id, dl_get]; try simp))); with_reducible exact h)))
    | (refine rxcg2 [false, false] (xs := ?_) (ys := ?_) (r := ?_) (x := ?_) (R := ?_) (rd := ?_) (b := ?_) (E' := ?_) rfl ?_ rfl ?_ ?_ ?_ ?_ ?_; rotate_left 8; (focus (intro φ h; (simp; (try (simp (disch := omega) only [wrap_i64_id, wrap_u64_id, dl_get]; try simp))); with_reducible exact h)); (focus (intro hw φ h; obtain ⟨hw1, hw2⟩ := hw; (try (have hq1 := Eq.trans (by assumption) hw1; simp only [decide_eq_true_eq, decide_eq_false_iff_not, Bool.and_eq_true, Bool.or_eq_true, Bool.and_eq_false_iff, Bool.or_eq_false_iff, Bool.not_eq_true', Bool.not_eq_false'] at hq1)); (try (have hq2 := Eq.trans (by assumption) hw2; simp only [decide_eq_true_eq, decide_eq_false_iff_not, Bool.and_eq_true, Bool.or_eq_true, Bool.and_eq_false_iff, Bool.or_eq_false_iff, Bool.not_eq_true', Bool.not_eq_false'] at hq2)); (simp [hw1, hw2]; (try (simp (disch := omega) only [wrap_i64_id, wrap_u64_id, dl_get]; try simp))); with_reducible exact h)); (focus (intro hw; obtain ⟨hw1, hw2⟩ := hw; (try (have hq1 := Eq.trans (by assumption) hw1; simp only [decide_eq_true_eq, decide_eq_false_iff_not, Bool.and_eq_true, Bool.or_eq_true, Bool.and_eq_false_iff, Bool.or_eq_false_iff, Bool.not_eq_true', Bool.not_eq_false'] at hq1)); (try (have hq2 := Eq.trans (by assumption) hw2; simp only [decide_eq_true_eq, decide_eq_false_iff_not, Bool.and_eq_true, Bool.or_eq_true, Bool.and_eq_false_iff, Bool.or_eq_false_iff, Bool.not_eq_true', Bool.not_eq_false'] at hq2)); first | (refine made_ok _ _ ?_; omega))); (focus (intro φ h; (simp; (try (simp (disch := omega) only [wrap_i64_id, wrap_u64_id, dl_get]; try simp))); with_reducible exact h)); (focus (intro φ h; (simp; (try (simp (disch := omega) only [wrap_i64_id, wrap_u64_id, dl_get]; try simp))); with_reducible exact h)))
    | (refine rxg (ok := true) (x := ?_) (rd := ?_) (b := ?_) (E' := ?_) rfl ?_ ?_ (fun _ => rfl) ?_ ?_; rotate_left 4; (focus (intro φ h; (simp; (try (simp (disch := omega) only [wrap_i64_id, wrap_u64_id, dl_get]; try simp))); with_reducible exact h)); (focus (intro hw φ h; (try (have hq := Eq.trans (by assumption) hw; simp only [decide_eq_true_eq, decide_eq_false_iff_not, Bool.and_eq_true, Bool.or_eq_true, Bool.and_eq_false_iff, Bool.or_eq_false_iff, Bool.not_eq_true', Bool.not_eq_false'] at hq)); (simp [hw]; (try (simp (disch := omega) only [wrap_i64_id, wrap_u64_id, dl_get]; try simp))); with_reducible exact h)); (focus (intro φ h; (simp; (try (simp (disch := omega) only [wrap_i64_id, wrap_u64_id, dl_get]; try simp))); with_reducible exact h)))
    | (refine rxg2 (ok := true) (x := ?_) (rd := ?_) (b := ?_) (E' := ?_) (c0 := ?_) (w0 := ?_) rfl ?_ ?_ (fun _ => rfl) ?_ ?_; rotate_left 6; (focus (intro φ h; (simp; (try (simp (disch := omega) only [wrap_i64_id, wrap_u64_id, dl_get]; try simp))); with_reducible exact h)); (focus (intro hw φ h; obtain ⟨hw1, hw2⟩ := hw; (try (have hq1 := Eq.trans (by assumption) hw1; simp only [decide_eq_true_eq, decide_eq_false_iff_not, Bool.and_eq_true, Bool.or_eq_true, Bool.and_eq_false_iff, Bool.or_eq_false_iff, Bool.not_eq_true', Bool.not_eq_false'] at hq1)); (try (have hq2 := Eq.trans (by assumption) hw2; simp only [decide_eq_true_eq, decide_eq_false_iff_not, Bool.and_eq_true, Bool.or_eq_true, Bool.and_eq_false_iff, Bool.or_eq_false_iff, Bool.not_eq_true', Bool.not_eq_false'] at hq2)); (simp [hw1, hw2]; (try (simp (disch := omega) only [wrap_i64_id, wrap_u64_id, dl_get]; try simp))); with_reducible exact h)); (focus (intro φ h; (simp; (try (simp (disch := omega) only [wrap_i64_id, wrap_u64_id, dl_get]; try simp))); with_reducible exact h)))
    | (refine rxg (ok := ?_) (x := ?_) (rd := ?_) (b := ?_) (E' := ?_) rfl ?_ ?_ ?_ ?_ ?_; rotate_left 5; (focus (intro φ h; (simp; (try (simp (disch := omega) only [wrap_i64_id, wrap_u64_id, dl_get]; try simp))); with_reducible exact h)); (focus (intro hw φ h; (try (have hq := Eq.trans (by assumption) hw; simp only [decide_eq_true_eq, decide_eq_false_iff_not, Bool.and_eq_true, Bool.or_eq_true, Bool.and_eq_false_iff, Bool.or_eq_false_iff, Bool.not_eq_true', Bool.not_eq_false'] at hq)); (simp [hw]; (try (simp (disch := omega) only [wrap_i64_id, wrap_u64_id, dl_get]; try simp))); with_reducible exact h)); (focus (intro hw; (try (have hq := Eq.trans (by assumption) hw; simp only [decide_eq_true_eq, decide_eq_false_iff_not, Bool.and_eq_true, Bool.or_eq_true, Bool.and_eq_false_iff, Bool.or_eq_false_iff, Bool.not_eq_true', Bool.not_eq_false'] at hq)); (first | with_reducible rfl | (simp; done) | (simp; omega) | rfl | (simp (disch := omega); done)))); (focus (intro φ h; (simp; (try (simp (disch := omega) only [wrap_i64_id, wrap_u64_id, dl_get]; try simp))); with_reducible exact h)))
    | (refine rxg2 (ok := ?_) (x := ?_) (rd := ?_) (b := ?_) (E' := ?_) (c0 := ?_) (w0 := ?_) rfl ?_ ?_ ?_ ?_ ?_; rotate_left 7; (focus (intro φ h; (simp; (try (simp (disch := omega) only [wrap_i64_id, wrap_u64_id, dl_get]; try simp))); with_reducible exact h)); (focus (intro hw φ h; obtain ⟨hw1, hw2⟩ := hw; (try (have hq1 := Eq.trans (by assumption) hw1; simp only [decide_eq_true_eq, decide_eq_false_iff_not, Bool.and_eq_true, Bool.or_eq_true, Bool.and_eq_false_iff, Bool.or_eq_false_iff, Bool.not_eq_true', Bool.not_eq_false'] at hq1)); (try (have hq2 := Eq.trans (by assumption) hw2; simp only [decide_eq_true_eq, decide_eq_false_iff_not, Bool.and_eq_true, Bool.or_eq_true, Bool.and_eq_false_iff, Bool.or_eq_false_iff, Bool.not_eq_true', Bool.not_eq_false'] at hq2)); (simp [hw1, hw2]; (try (simp (disch := omega) only [wrap_i64_id, wrap_u64_id, dl_get]; try simp))); with_reducible exact h)); (focus (intro hw; obtain ⟨hw1, hw2⟩ := hw; (try (have hq1 := Eq.trans (by assumption) hw1; simp only [decide_eq_true_eq, decide_eq_false_iff_not, Bool.and_eq_true, Bool.or_eq_true, Bool.and_eq_false_iff, Bool.or_eq_false_iff, Bool.not_eq_true', Bool.not_eq_false'] at hq1)); (try (have hq2 := Eq.trans (by assumption) hw2; simp only [decide_eq_true_eq, decide_eq_false_iff_not, Bool.and_eq_true, Bool.or_eq_true, Bool.and_eq_false_iff, Bool.or_eq_false_iff, Bool.not_eq_true', Bool.not_eq_false'] at hq2)); (first | with_reducible rfl | (simp; done) | (simp; omega) | rfl | (simp (disch := omega); done)))); (focus (intro φ h; (simp; (try (simp (disch := omega) only [wrap_i64_id, wrap_u64_id, dl_get]; try simp))); with_reducible exact h)))
    | (refine pt_cond (b := ?_) ?_ ?_ ?_; rotate_left 1; (focus (intro φ h; (simp; (try (simp (disch := omega) only [wrap_i64_id, wrap_u64_id, dl_get]; try simp))); with_reducible exact h)))
    | (refine pt_end [] (by first | exact .inr rfl | exact .inl rfl) ?_ ?_ ?_ ?_; (focus (simp; done)); rotate_left 1; (focus (simp; done)); (focus (simp; done)))
    | (intro hb; first | cases hb | cases ((hb.symm.trans (by assumption)) : true = false) | cases ((hb.symm.trans (by assumption)) : false = true) | (simp only [decide_eq_true_eq, decide_eq_false_iff_not, Bool.and_eq_true, Bool.or_eq_true, Bool.and_eq_false_iff, Bool.or_eq_false_iff, Bool.not_eq_true', Bool.not_eq_false'] at hb) | skip)
  · have hi : i < a.length := by simpa using hb
    refine pt_loop (fun s : Nat × Int × List Int => [(2, .ptr 2 0), (3, .ptr 3 0), (4, .ptr 4 0), (5, .own 10), (6, .d (.int .i64 i)), (7, .d (.int .u64 s.2.1)), (8, .d (.int .i64 s.1))]) (fun s => [(2, some (.box [.d (.bool (ng x)), .d (.list (dl a))])), (3, some (.box [.d (.bool (ng y)), .d (.list (dl b))])), (4, some (.box [.d (.bool false), .nils])), (10, some (.row 22 1 (dl s.2.2)))]) 11
      (fun s => TIn a b out0 i s.1 s.2.1 s.2.2) (fun s => b.length + 1 - s.1) (0, 0, out0) ⟨by simp, by simp, by simp, by simp, h2, h3, by simp [valL]⟩ (wk_ren [] (by simp) (by simp) (by simp)) ?_
    rintro ⟨j, c0, out⟩ ht
    simp only at ht ⊢
    have ht1 := ht.1
    have ht2 := ht.2.1
    have ht3 := ht.2.2.1
    have ht4 := ht.2.2.2.1
    have ht5 := ht.2.2.2.2.1
    have ht6 := ht.2.2.2.2.2.1.dig (i + j)
    have ht7 := dig_mul_rng ka kb i j
    repeat' first
      | refine rx_nil ?_
      | refine pw_seq ?_
      | refine pt_region ?_
      | refine thenQ_n ?_
      | refine thenQ_r ?_
      | refine thenQ_e ?_
      | refine pw_ret ?_
      | refine pw_skip ?_
      | refine pw_label ?_
      | refine pw_exit ?_
      | refine pw_block ?_
      | refine blockQ_n ?_
      | refine blockQ_r ?_
      | refine blockQ_e ?_
      | refine blockQ_x rfl ?_
      | refine loopQ_e ?_
      | refine loopQ_r ?_
      | (refine pt_draw ?_)
      | (refine And.intro (by kernel_rfl) ?_)
      | (refine rx_movb (b := ?_) ?_ ?_; rotate_left 1; (focus (intro φ h; (simp; (try (simp (disch := omega) only [wrap_i64_id, wrap_u64_id, dl_get]; try simp))); with_reducible exact h)); intro c hc)
      | (refine rxc [false, false] (xs := ?_) (ys := ?_) (r := ?_) (R := ?_) (s := ?_) (E' := ?_) (σ' := ?_) (nx' := ?_) rfl ?_ ?_ ?_ ?_; rotate_left 8; (focus (intro φ h; (simp; (try (simp (disch := omega) only [wrap_i64_id, wrap_u64_id, dl_get]; try simp))); with_reducible exact h)); (focus (first | (refine digit_ok _ _ ?_; omega))); (focus (intro φ h; (simp; (try (simp (disch := omega) only [wrap_i64_id, wrap_u64_id, dl_get]; try simp))); with_reducible exact h)))
      | (refine rx (ok := true) (E' := ?_) (σ' := ?_) (nx' := ?_) (s := ?_) ?_ rfl ?_; rotate_left 4; (focus (intro φ h; (simp; (try (simp (disch := omega) only [wrap_i64_id, wrap_u64_id, dl_get]; try simp))); with_reducible exact h)))
      | (refine rx (ok := ?_) (E' := ?_) (σ' := ?_) (nx' := ?_) (s := ?_) ?_ ?_ ?_; rotate_left 5; (focus (intro φ h; (simp; (try (simp (disch := omega) only [wrap_i64_id, wrap_u64_id, dl_get]; try simp))); with_reducible exact h)); (focus (first | with_reducible rfl | (simp; done) | (simp; omega) | rfl)))
      | (refine rxg_movb (b := ?_) (b' := ?_) rfl ?_ ?_ ?_; rotate_left 2; (focus (intro φ h; (simp; (try (simp (disch := omega) only [wrap_i64_id, wrap_u64_id, dl_get]; try simp))); with_reducible exact h)); (focus (intro hw φ h; (try (have hq := Eq.trans (by assumption) hw; simp only [decide_eq_true_eq, decide_eq_false_iff_not, Bool.and_eq_true, Bool.or_eq_true, Bool.and_eq_false_iff, Bool.or_eq_false_iff, Bool.not_eq_true', Bool.not_eq_false'] at hq)); (simp [hw]; (try (simp (disch := omega) only [wrap_i64_id, wrap_u64_id, dl_get]; try simp))); with_reducible exact h)); intro c hc)
      | (refine rxcg [false, false] (xs := ?_) (ys := ?_) (r := ?_) (x := ?_) (R := ?_) (rd := ?_) (b := ?_) (E' := ?_) rfl ?_ rfl ?_ ?_ ?_ ?_ ?_; rotate_left 8; (focus (intro φ h; (simp; (try (simp (disch := omega) only [wrap_i64_id, wrap_u64_id, dl_get]; try simp))); with_reducible exact h)); (focus (intro hw φ h; (try (have hq := Eq.trans (by assumption) hw; simp only [decide_eq_true_eq, decide_eq_false_iff_not, Bool.and_eq_true, Bool.or_eq_true, Bool.and_eq_false_iff, Bool.or_eq_false_iff, Bool.not_eq_true', Bool.not_eq_false'] at hq)); (simp [hw]; (try (simp (disch := omega) only [wrap_i64_id, wrap_u64_id, dl_get]; try simp))); with_reducible exact h)); (focus (intro hw; (try (have hq := Eq.trans (by assumption) hw; simp only [decide_eq_true_eq, decide_eq_false_iff_not, Bool.and_eq_true, Bool.or_eq_true, Bool.and_eq_false_iff, Bool.or_eq_false_iff, Bool.not_eq_true', Bool.not_eq_false'] at hq)); first | (refine digit_ok _ _ ?_; omega))); (focus (intro φ h; (simp; (try (simp (disch := omega) only [wrap_i64_id, wrap_u64_id, dl_get]; try simp))); with_reducible exact h)); (focus (intro φ h; (simp; (try (simp (disch := omega) only [wrap_i64_id, wrap_u64_id, dl_get]; try simp))); with_reducible exact h)))
      | (refine rxcg2 [false, false] (xs := ?_) (ys := ?_) (r := ?_) (x := ?_) (R := ?_) (rd := ?_) (b := ?_) (E' := ?_) rfl ?_ rfl ?_ ?_ ?_ ?_ ?_; rotate_left 8; (focus (intro φ h; (simp; (try (simp (disch := omega) only [wrap_i64_id, wrap_u64_id, dl_get]; try simp))); with_reducible exact h)); (focus (intro hw φ h; obtain ⟨hw1, hw2⟩ := hw; (try (have hq1 := Eq.trans (by assumption) hw1; simp only [decide_eq_true_eq, decide_eq_false_iff_not, Bool.and_eq_true, Bool.or_eq_true, Bool.and_eq_false_iff, Bool.or_eq_false_iff, Bool.not_eq_true', Bool.not_eq_false'] at hq1)); (try (have hq2 := Eq.trans (by assumption) hw2; simp only [decide_eq_true_eq, decide_eq_false_iff_not, Bool.and_eq_true, Bool.or_eq_true, Bool.and_eq_false_iff, Bool.or_eq_false_iff, Bool.not_eq_true', Bool.not_eq_false'] at hq2)); (simp [hw1, hw2]; (try (simp (disch := omega) only [wrap_i64_id, wrap_u64_id, dl_get]; try simp))); with_reducible exact h)); (focus (intro hw; obtain ⟨hw1, hw2⟩ := hw; (try (have hq1 := Eq.trans (by assumption) hw1; simp only [decide_eq_true_eq, decide_eq_false_iff_not, Bool.and_eq_true, Bool.or_eq_true, Bool.and_eq_false_iff, Bool.or_eq_false_iff, Bool.not_eq_true', Bool.not_eq_false'] at hq1)); (try (have hq2 := Eq.trans (by assumption) hw2; simp only [decide_eq_true_eq, decide_eq_false_iff_not, Bool.and_eq_true, Bool.or_eq_true, Bool.and_eq_false_iff, Bool.or_eq_false_iff, Bool.not_eq_true', Bool.not_eq_false'] at hq2)); first | (refine digit_ok _ _ ?_; omega))); (focus (intro φ h; (simp; (try (simp (disch := omega) only [wrap_i64_id, wrap_u64_id, dl_get]; try simp))); with_reducible exact h)); (focus (intro φ h; (simp; (try (simp (disch := omega) only [wrap_i64_id, wrap_u64_id, dl_get]; try simp))); with_reducible exact h)))
      | (refine rxg (ok := true) (x := ?_) (rd := ?_) (b := ?_) (E' := ?_) rfl ?_ ?_ (fun _ => rfl) ?_ ?_; rotate_left 4; (focus (intro φ h; (simp; (try (simp (disch := omega) only [wrap_i64_id, wrap_u64_id, dl_get]; try simp))); with_reducible exact h)); (focus (intro hw φ h; (try (have hq := Eq.trans (by assumption) hw; simp only [decide_eq_true_eq, decide_eq_false_iff_not, Bool.and_eq_true, Bool.or_eq_true, Bool.and_eq_false_iff, Bool.or_eq_false_iff, Bool.not_eq_true', Bool.not_eq_false'] at hq)); (simp [hw]; (try (simp (disch := omega) only [wrap_i64_id, wrap_u64_id, dl_get]; try simp))); with_reducible exact h)); (focus (intro φ h; (simp; (try (simp (disch := omega) only [wrap_i64_id, wrap_u64_id, dl_get]; try simp))); with_reducible exact h)))
      | (refine rxg2 (ok := true) (x := ?_) (rd := ?_) (b := ?_) (E' := ?_) (c0 := ?_) (w0 := ?_) rfl ?_ ?_ (fun _ => rfl) ?_ ?_; rotate_left 6; (focus (intro φ h; (simp; (try (simp (disch := omega) only [wrap_i64_id, wrap_u64_id, dl_get]; try simp))); with_reducible exact h)); (focus (intro hw φ h; obtain ⟨hw1, hw2⟩ := hw; (try (have hq1 := Eq.trans (by assumption) hw1; simp only [decide_eq_true_eq, decide_eq_false_iff_not, Bool.and_eq_true, Bool.or_eq_true, Bool.and_eq_false_iff, Bool.or_eq_false_iff, Bool.not_eq_true', Bool.not_eq_false'] at hq1)); (try (have hq2 := Eq.trans (by assumption) hw2; simp only [decide_eq_true_eq, decide_eq_false_iff_not, Bool.and_eq_true, Bool.or_eq_true, Bool.and_eq_false_iff, Bool.or_eq_false_iff, Bool.not_eq_true', Bool.not_eq_false'] at hq2)); (simp [hw1, hw2]; (try (simp (disch := omega) only [wrap_i64_id, wrap_u64_id, dl_get]; try simp))); with_reducible exact h)); (focus (intro φ h; (simp; (try (simp (disch := omega) only [wrap_i64_id, wrap_u64_id, dl_get]; try simp))); with_reducible exact h)))
      | (refine rxg (ok := ?_) (x := ?_) (rd := ?_) (b := ?_) (E' := ?_) rfl ?_ ?_ ?_ ?_ ?_; rotate_left 5; (focus (intro φ h; (simp; (try (simp (disch := omega) only [wrap_i64_id, wrap_u64_id, dl_get]; try simp))); with_reducible exact h)); (focus (intro hw φ h; (try (have hq := Eq.trans (by assumption) hw; simp only [decide_eq_true_eq, decide_eq_false_iff_not, Bool.and_eq_true, Bool.or_eq_true, Bool.and_eq_false_iff, Bool.or_eq_false_iff, Bool.not_eq_true', Bool.not_eq_false'] at hq)); (simp [hw]; (try (simp (disch := omega) only [wrap_i64_id, wrap_u64_id, dl_get]; try simp))); with_reducible exact h)); (focus (intro hw; (try (have hq := Eq.trans (by assumption) hw; simp only [decide_eq_true_eq, decide_eq_false_iff_not, Bool.and_eq_true, Bool.or_eq_true, Bool.and_eq_false_iff, Bool.or_eq_false_iff, Bool.not_eq_true', Bool.not_eq_false'] at hq)); (first | with_reducible rfl | (simp; done) | (simp; omega) | rfl | (simp (disch := omega); done)))); (focus (intro φ h; (simp; (try (simp (disch := omega) only [wrap_i64_id, wrap_u64_id, dl_get]; try simp))); with_reducible exact h)))
      | (refine rxg2 (ok := ?_) (x := ?_) (rd := ?_) (b := ?_) (E' := ?_) (c0 := ?_) (w0 := ?_) rfl ?_ ?_ ?_ ?_ ?_; rotate_left 7; (focus (intro φ h; (simp; (try (simp (disch := omega) only [wrap_i64_id, wrap_u64_id, dl_get]; try simp))); with_reducible exact h)); (focus (intro hw φ h; obtain ⟨hw1, hw2⟩ := hw; (try (have hq1 := Eq.trans (by assumption) hw1; simp only [decide_eq_true_eq, decide_eq_false_iff_not, Bool.and_eq_true, Bool.or_eq_true, Bool.and_eq_false_iff, Bool.or_eq_false_iff, Bool.not_eq_true', Bool.not_eq_false'] at hq1)); (try (have hq2 := Eq.trans (by assumption) hw2; simp only [decide_eq_true_eq, decide_eq_false_iff_not, Bool.and_eq_true, Bool.or_eq_true, Bool.and_eq_false_iff, Bool.or_eq_false_iff, Bool.not_eq_true', Bool.not_eq_false'] at hq2)); (simp [hw1, hw2]; (try (simp (disch := omega) only [wrap_i64_id, wrap_u64_id, dl_get]; try simp))); with_reducible exact h)); (focus (intro hw; obtain ⟨hw1, hw2⟩ := hw; (try (have hq1 := Eq.trans (by assumption) hw1; simp only [decide_eq_true_eq, decide_eq_false_iff_not, Bool.and_eq_true, Bool.or_eq_true, Bool.and_eq_false_iff, Bool.or_eq_false_iff, Bool.not_eq_true', Bool.not_eq_false'] at hq1)); (try (have hq2 := Eq.trans (by assumption) hw2; simp only [decide_eq_true_eq, decide_eq_false_iff_not, Bool.and_eq_true, Bool.or_eq_true, Bool.and_eq_false_iff, Bool.or_eq_false_iff, Bool.not_eq_true', Bool.not_eq_false'] at hq2)); (first | with_reducible rfl | (simp; done) | (simp; omega) | rfl | (simp (disch := omega); done)))); (focus (intro φ h; (simp; (try (simp (disch := omega) only [wrap_i64_id, wrap_u64_id, dl_get]; try simp))); with_reducible exact h)))
      | (refine pt_cond (b := ?_) ?_ ?_ ?_; rotate_left 1; (focus (intro φ h; (simp; (try (simp (disch := omega) only [wrap_i64_id, wrap_u64_id, dl_get]; try simp))); with_reducible exact h)))
      | (refine pt_end [] (by first | exact .inr rfl | exact .inl rfl) ?_ ?_ ?_ ?_; (focus (simp; done)); rotate_left 1; (focus (simp; done)); (focus (simp; done)))
      | (intro hb; first | cases hb | cases ((hb.symm.trans (by assumption)) : true = false) | cases ((hb.symm.trans (by assumption)) : false = true) | (simp only [decide_eq_true_eq, decide_eq_false_iff_not, Bool.and_eq_true, Bool.or_eq_true, Bool.and_eq_false_iff, Bool.or_eq_false_iff, Bool.not_eq_true', Bool.not_eq_false'] at hb) | skip)
    · have hj : j ≤ b.length := by
        rcases hb with hb | hb
        · subst hb; simp at hc; omega
        · by_cases hjb : j ≤ b.length
          · exact hjb
          · have := ht2 (by omega); omega
      obtain ⟨hs, q0, q1, _, _⟩ := ht.step ka kb hi h4 hj
      have hm := mask32 _ q0 q1
      have hf : (c0 + (dig out (i + j) + dig a i * dig b j)).fdiv 4294967296 = (c0 + (dig out (i + j) + dig a i * dig b j)) / 4294967296 := Int.fdiv_eq_ediv_of_nonneg _ (by omega)
      refine loopQ_n (j + 1, _, _) hs (by simp; omega) (wk_ren [] (by simp [hf]) (by simp [hm]) (by simp))
    · have hj : ¬ j < b.length := by
        have := hb.1
        subst this
        simpa using hc
      have hc0 : c0 = 0 := by omega
      subst hc0
      obtain ⟨d1, d2, d3⟩ := ht.done hi h4 (by omega)
      exact loopQ_n (i + 1, out) ⟨by simp; omega, d1, d2, d3⟩ (by simp; omega) (wk_ren [] (by simp) (by simp) (by simp))
  · have hi : i = a.length := by omega
    subst hi
    rw [List.take_length] at h4
    have hv : valL out0 = ((x * y).natAbs : Int) := by rw [h4, va, vb, Int.natAbs_mul, Int.natCast_mul]
    have hk := mkNeg_eq h3 hv (!(ng x == ng y)) (ng_mul x y)
    simp [hk]
end Go.Proofs.Ytikfkipalifohaa
