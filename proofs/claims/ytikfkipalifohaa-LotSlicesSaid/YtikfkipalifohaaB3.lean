/- novationref1's numbers: sums of digits. -/
import Derived.Test.YtikfkipalifohaaB2
namespace Go.Proofs.Ytikfkipalifohaa
open Go Go.Proofs.Ytikfkipalifohaa.A
set_option maxRecDepth 100000
set_option maxHeartbeats 4000000
set_option linter.unusedSimpArgs false
set_option linter.unusedVariables false

/-- Digits as they are to be. -/
def DOK (a : List Int) : Prop := ∀ d ∈ a, 0 ≤ d ∧ d < 4294967296
theorem DOK.dig {a : List Int} (h : DOK a) (i : Nat) : 0 ≤ dig a i ∧ dig a i < 4294967296 := by
  unfold Go.Proofs.Ytikfkipalifohaa.dig
  by_cases hi : i < a.length
  · have := h a[i] (List.getElem_mem hi)
    simpa [List.getD_eq_getElem?_getD, hi] using this
  · simp [List.getD_eq_getElem?_getD, hi]
def addL : List Int → List Int → Int → List Int
  | [], [], c => if 0 < c then [c] else []
  | x :: xs, [], c => (x + c) % 4294967296 :: addL xs [] ((x + c) / 4294967296)
  | [], y :: ys, c => (y + c) % 4294967296 :: addL [] ys ((y + c) / 4294967296)
  | x :: xs, y :: ys, c => (x + y + c) % 4294967296 :: addL xs ys ((x + y + c) / 4294967296)
theorem dig_drop (a : List Int) (i : Nat) (h : i < a.length) : a.drop i = dig a i :: a.drop (i + 1) := by
  rw [List.drop_eq_getElem_cons h]
  simp [dig, List.getD_eq_getElem?_getD, h]
theorem dig_out (a : List Int) (i : Nat) (h : a.length ≤ i) : dig a i = 0 ∧ a.drop i = [] ∧ a.drop (i + 1) = [] := by
  refine ⟨by simp [dig, List.getD_eq_getElem?_getD, h], by simp [h], by simp; omega⟩
theorem addL_step (a b : List Int) (i : Nat) (c : Int) (h : i < a.length ∨ i < b.length) :
    addL (a.drop i) (b.drop i) c = (dig a i + dig b i + c) % 4294967296 :: addL (a.drop (i + 1)) (b.drop (i + 1)) ((dig a i + dig b i + c) / 4294967296) := by
  by_cases ha : i < a.length
  · by_cases hb : i < b.length
    · rw [dig_drop a i ha, dig_drop b i hb, addL]
    · obtain ⟨h1, h2, h3⟩ := dig_out b i (by omega)
      rw [dig_drop a i ha, h1, h2, h3, addL, Int.add_zero]
  · have hb : i < b.length := h.resolve_left ha
    obtain ⟨h1, h2, h3⟩ := dig_out a i (by omega)
    rw [dig_drop b i hb, h1, h2, h3, addL, Int.zero_add]
theorem mask32 (x : Int) (h0 : 0 ≤ x) (h1 : x < 18446744073709551616) : bits .and .u64 x 4294967295 = x % 4294967296 := by
  rw [Go.u64_and x 4294967295 h0 h1 (by omega) (by omega)]
  obtain ⟨n, rfl⟩ := Int.eq_ofNat_of_zero_le h0
  have : (4294967295 : Int).toNat = 4294967295 := rfl
  rw [this, Go.nat_mask32]
  simp
theorem addSizes_ok (a b : List Int) (ha : DOK a) (hb : DOK b) (la : a.length < 1000000000) (lb : b.length < 1000000000) :
    FnOK Go.Proofs.Try.prog 39 [.d (.list (dl a)), .d (.list (dl b))] (.own 0) [(0, some (.row 22 1 (dl (addL a b 0))))] := by
  refine fn_ok Go.Proofs.Try.func39 rfl (by kernel_rfl) mix Go.Proofs.Try.ntmps39 rfl (by kernel_rfl) (by kernel_rfl) ?_
  repeat' first
    | refine rx_nil ?_
    | refine pw_seq ?_
    | refine pt_region ?_
    | refine thenQ_n ?_
    | refine thenQ_r ?_
    | refine thenQ_e ?_
    | refine pw_ret ?_
    | refine pw_skip ?_
    | refine pw_label ?_
    | refine pw_exit ?_
    | refine pw_block ?_
    | refine blockQ_n ?_
    | refine blockQ_r ?_
    | refine blockQ_e ?_
    | refine blockQ_x rfl ?_
    | refine loopQ_e ?_
    | refine loopQ_r ?_
    | (refine pt_draw ?_)
    | (refine And.intro (by kernel_rfl) ?_)
    | (refine rx_movb (b := ?_) ?_ ?_; rotate_left 1; (focus (intro φ h; (simp; (try (simp (disch := omega) only [wrap_i64_id, wrap_u64_id, dl_get]; try simp))); with_reducible exact h)); intro c hc)
    | (refine rx (ok := true) (E' := ?_) (σ' := ?_) (nx' := ?_) (s := ?_) ?_ rfl ?_; rotate_left 4; (focus (intro φ h; (simp; (try (simp (disch := omega) only [wrap_i64_id, wrap_u64_id, dl_get]; try simp))); with_reducible exact h)))
    | (refine rx (ok := ?_) (E' := ?_) (σ' := ?_) (nx' := ?_) (s := ?_) ?_ ?_ ?_; rotate_left 5; (focus (intro φ h; (simp; (try (simp (disch := omega) only [wrap_i64_id, wrap_u64_id, dl_get]; try simp))); with_reducible exact h)); (focus (first | with_reducible rfl | (simp; done) | (simp; omega) | rfl)))
    | (refine rxg_movb (b := ?_) (b' := ?_) rfl ?_ ?_ ?_; rotate_left 2; (focus (intro φ h; (simp; (try (simp (disch := omega) only [wrap_i64_id, wrap_u64_id, dl_get]; try simp))); with_reducible exact h)); (focus (intro hw φ h; (try (have hq := Eq.trans (by assumption) hw; simp only [decide_eq_true_eq, decide_eq_false_iff_not, Bool.and_eq_true, Bool.or_eq_true, Bool.and_eq_false_iff, Bool.or_eq_false_iff, Bool.not_eq_true', Bool.not_eq_false'] at hq)); (simp [hw]; (try (simp (disch := omega) only [wrap_i64_id, wrap_u64_id, dl_get]; try simp))); with_reducible exact h)); intro c hc)
    | (refine rxg (ok := true) (x := ?_) (rd := ?_) (b := ?_) (E' := ?_) rfl ?_ ?_ (fun _ => rfl) ?_ ?_; rotate_left 4; (focus (intro φ h; (simp; (try (simp (disch := omega) only [wrap_i64_id, wrap_u64_id, dl_get]; try simp))); with_reducible exact h)); (focus (intro hw φ h; (try (have hq := Eq.trans (by assumption) hw; simp only [decide_eq_true_eq, decide_eq_false_iff_not, Bool.and_eq_true, Bool.or_eq_true, Bool.and_eq_false_iff, Bool.or_eq_false_iff, Bool.not_eq_true', Bool.not_eq_false'] at hq)); (simp [hw]; (try (simp (disch := omega) only [wrap_i64_id, wrap_u64_id, dl_get]; try simp))); with_reducible exact h)); (focus (intro φ h; (simp; (try (simp (disch := omega) only [wrap_i64_id, wrap_u64_id, dl_get]; try simp))); with_reducible exact h)))
    | (refine rxg2 (ok := true) (x := ?_) (rd := ?_) (b := ?_) (E' := ?_) (c0 := ?_) (w0 := ?_) rfl ?_ ?_ (fun _ => rfl) ?_ ?_; rotate_left 6; (focus (intro φ h; (simp; (try (simp (disch := omega) only [wrap_i64_id, wrap_u64_id, dl_get]; try simp))); with_reducible exact h)); (focus (intro hw φ h; obtain ⟨hw1, hw2⟩ := hw; (try (have hq1 := Eq.trans (by assumption) hw1; simp only [decide_eq_true_eq, decide_eq_false_iff_not, Bool.and_eq_true, Bool.or_eq_true, Bool.and_eq_false_iff, Bool.or_eq_false_iff, Bool.not_eq_true', Bool.not_eq_false'] at hq1)); (try (have hq2 := Eq.trans (by assumption) hw2; simp only [decide_eq_true_eq, decide_eq_false_iff_not, Bool.and_eq_true, Bool.or_eq_true, Bool.and_eq_false_iff, Bool.or_eq_false_iff, Bool.not_eq_true', Bool.not_eq_false'] at hq2)); (simp [hw1, hw2]; (try (simp (disch := omega) only [wrap_i64_id, wrap_u64_id, dl_get]; try simp))); with_reducible exact h)); (focus (intro φ h; (simp; (try (simp (disch := omega) only [wrap_i64_id, wrap_u64_id, dl_get]; try simp))); with_reducible exact h)))
    | (refine rxg (ok := ?_) (x := ?_) (rd := ?_) (b := ?_) (E' := ?_) rfl ?_ ?_ ?_ ?_ ?_; rotate_left 5; (focus (intro φ h; (simp; (try (simp (disch := omega) only [wrap_i64_id, wrap_u64_id, dl_get]; try simp))); with_reducible exact h)); (focus (intro hw φ h; (try (have hq := Eq.trans (by assumption) hw; simp only [decide_eq_true_eq, decide_eq_false_iff_not, Bool.and_eq_true, Bool.or_eq_true, Bool.and_eq_false_iff, Bool.or_eq_false_iff, Bool.not_eq_true', Bool.not_eq_false'] at hq)); (simp [hw]; (try (simp (disch := omega) only [wrap_i64_id, wrap_u64_id, dl_get]; try simp))); with_reducible exact h)); (focus (intro hw; (try (have hq := Eq.trans (by assumption) hw; simp only [decide_eq_true_eq, decide_eq_false_iff_not, Bool.and_eq_true, Bool.or_eq_true, Bool.and_eq_false_iff, Bool.or_eq_false_iff, Bool.not_eq_true', Bool.not_eq_false'] at hq)); (first | with_reducible rfl | (simp; done) | (simp; omega) | rfl | (simp (disch := omega); done)))); (focus (intro φ h; (simp; (try (simp (disch := omega) only [wrap_i64_id, wrap_u64_id, dl_get]; try simp))); with_reducible exact h)))
    | (refine rxg2 (ok := ?_) (x := ?_) (rd := ?_) (b := ?_) (E' := ?_) (c0 := ?_) (w0 := ?_) rfl ?_ ?_ ?_ ?_ ?_; rotate_left 7; (focus (intro φ h; (simp; (try (simp (disch := omega) only [wrap_i64_id, wrap_u64_id, dl_get]; try simp))); with_reducible exact h)); (focus (intro hw φ h; obtain ⟨hw1, hw2⟩ := hw; (try (have hq1 := Eq.trans (by assumption) hw1; simp only [decide_eq_true_eq, decide_eq_false_iff_not, Bool.and_eq_true, Bool.or_eq_true, Bool.and_eq_false_iff, Bool.or_eq_false_iff, Bool.not_eq_true', Bool.not_eq_false'] at hq1)); (try (have hq2 := Eq.trans (by assumption) hw2; simp only [decide_eq_true_eq, decide_eq_false_iff_not, Bool.and_eq_true, Bool.or_eq_true, Bool.and_eq_false_iff, Bool.or_eq_false_iff, Bool.not_eq_true', Bool.not_eq_false'] at hq2)); (simp [hw1, hw2]; (try (simp (disch := omega) only [wrap_i64_id, wrap_u64_id, dl_get]; try simp))); with_reducible exact h)); (focus (intro hw; obtain ⟨hw1, hw2⟩ := hw; (try (have hq1 := Eq.trans (by assumption) hw1; simp only [decide_eq_true_eq, decide_eq_false_iff_not, Bool.and_eq_true, Bool.or_eq_true, Bool.and_eq_false_iff, Bool.or_eq_false_iff, Bool.not_eq_true', Bool.not_eq_false'] at hq1)); (try (have hq2 := Eq.trans (by assumption) hw2; simp only [decide_eq_true_eq, decide_eq_false_iff_not, Bool.and_eq_true, Bool.or_eq_true, Bool.and_eq_false_iff, Bool.or_eq_false_iff, Bool.not_eq_true', Bool.not_eq_false'] at hq2)); (first | with_reducible rfl | (simp; done) | (simp; omega) | rfl | (simp (disch := omega); done)))); (focus (intro φ h; (simp; (try (simp (disch := omega) only [wrap_i64_id, wrap_u64_id, dl_get]; try simp))); with_reducible exact h)))
    | (refine pt_cond (b := ?_) ?_ ?_ ?_; rotate_left 1; (focus (intro φ h; (simp; (try (simp (disch := omega) only [wrap_i64_id, wrap_u64_id, dl_get]; try simp))); with_reducible exact h)))
    | (refine pt_end [] (by first | exact .inr rfl | exact .inl rfl) ?_ ?_ ?_ ?_; (focus (simp; done)); rotate_left 1; (focus (simp; done)); (focus (simp; done)))
    | (intro hb; first | cases hb | cases ((hb.symm.trans (by assumption)) : true = false) | cases ((hb.symm.trans (by assumption)) : false = true) | (simp only [decide_eq_true_eq, decide_eq_false_iff_not, Bool.and_eq_true, Bool.or_eq_true, Bool.and_eq_false_iff, Bool.or_eq_false_iff, Bool.not_eq_true', Bool.not_eq_false'] at hb) | skip)
  refine pt_loop (fun s : Nat × Int × List Int => [(0, .d (.list (dl a))), (1, .d (.list (dl b))), (5, .own 10), (6, .d (.int .u64 s.2.1)), (7, .d (.int .i64 s.1))]) (fun s => [(10, some (.row 22 1 (dl s.2.2)))]) 11
    (fun s => s.1 ≤ max a.length b.length + 1 ∧ 0 ≤ s.2.1 ∧ s.2.1 ≤ 1 ∧ (max a.length b.length < s.1 → s.2.1 = 0) ∧ s.2.2.length ≤ s.1 ∧ s.2.2 ++ addL (a.drop s.1) (b.drop s.1) s.2.1 = addL a b 0)
    (fun s => max a.length b.length + 1 - s.1) (0, 0, []) ⟨by simp, by simp, by simp, by simp, by simp, by simp⟩ (wk_ren [(10, none)] (by simp) (by simp) (by simp)) ?_
  rintro ⟨i, c0, out⟩ ⟨h1, h2, h3, h4, h5, h6⟩
  simp only at h1 h2 h3 h4 h5 h6 ⊢
  have hda := ha.dig i
  have hdb := hb.dig i
  repeat' first
    | refine rx_nil ?_
    | refine pw_seq ?_
    | refine pt_region ?_
    | refine thenQ_n ?_
    | refine thenQ_r ?_
    | refine thenQ_e ?_
    | refine pw_ret ?_
    | refine pw_skip ?_
    | refine pw_label ?_
    | refine pw_exit ?_
    | refine pw_block ?_
    | refine blockQ_n ?_
    | refine blockQ_r ?_
    | refine blockQ_e ?_
    | refine blockQ_x rfl ?_
    | refine loopQ_e ?_
    | refine loopQ_r ?_
    | (refine pt_draw ?_)
    | (refine And.intro (by kernel_rfl) ?_)
    | (refine rx_movb (b := ?_) ?_ ?_; rotate_left 1; (focus (intro φ h; (simp; (try (simp (disch := omega) only [wrap_i64_id, wrap_u64_id, dl_get]; try simp))); with_reducible exact h)); intro c hc)
    | (refine rxc [false, false] (xs := ?_) (ys := ?_) (r := ?_) (R := ?_) (s := ?_) (E' := ?_) (σ' := ?_) (nx' := ?_) rfl ?_ ?_ ?_ ?_; rotate_left 8; (focus (intro φ h; (simp; (try (simp (disch := omega) only [wrap_i64_id, wrap_u64_id, dl_get]; try simp))); with_reducible exact h)); (focus (first | (refine digit_ok _ _ ?_; omega))); (focus (intro φ h; (simp; (try (simp (disch := omega) only [wrap_i64_id, wrap_u64_id, dl_get]; try simp))); with_reducible exact h)))
    | (refine rx (ok := true) (E' := ?_) (σ' := ?_) (nx' := ?_) (s := ?_) ?_ rfl ?_; rotate_left 4; (focus (intro φ h; (simp; (try (simp (disch := omega) only [wrap_i64_id, wrap_u64_id, dl_get]; try simp))); with_reducible exact h)))
    | (refine rx (ok := ?_) (E' := ?_) (σ' := ?_) (nx' := ?_) (s := ?_) ?_ ?_ ?_; rotate_left 5; (focus (intro φ h; (simp; (try (simp (disch := omega) only [wrap_i64_id, wrap_u64_id, dl_get]; try simp))); with_reducible exact h)); (focus (first | with_reducible rfl | (simp; done) | (simp; omega) | rfl)))
    | (refine rxg_movb (b := ?_) (b' := ?_) rfl ?_ ?_ ?_; rotate_left 2; (focus (intro φ h; (simp; (try (simp (disch := omega) only [wrap_i64_id, wrap_u64_id, dl_get]; try simp))); with_reducible exact h)); (focus (intro hw φ h; (try (have hq := Eq.trans (by assumption) hw; simp only [decide_eq_true_eq, decide_eq_false_iff_not, Bool.and_eq_true, Bool.or_eq_true, Bool.and_eq_false_iff, Bool.or_eq_false_iff, Bool.not_eq_true', Bool.not_eq_false'] at hq)); (simp [hw]; (try (simp (disch := omega) only [wrap_i64_id, wrap_u64_id, dl_get]; try simp))); with_reducible exact h)); intro c hc)
    | (refine rxcg [false, false] (xs := ?_) (ys := ?_) (r := ?_) (x := ?_) (R := ?_) (rd := ?_) (b := ?_) (E' := ?_) rfl ?_ rfl ?_ ?_ ?_ ?_ ?_; rotate_left 8; (focus (intro φ h; (simp; (try (simp (disch := omega) only [wrap_i64_id, wrap_u64_id, dl_get]; try simp))); with_reducible exact h)); (focus (intro hw φ h; (try (have hq := Eq.trans (by assumption) hw; simp only [decide_eq_true_eq, decide_eq_false_iff_not, Bool.and_eq_true, Bool.or_eq_true, Bool.and_eq_false_iff, Bool.or_eq_false_iff, Bool.not_eq_true', Bool.not_eq_false'] at hq)); (simp [hw]; (try (simp (disch := omega) only [wrap_i64_id, wrap_u64_id, dl_get]; try simp))); with_reducible exact h)); (focus (intro hw; (try (have hq := Eq.trans (by assumption) hw; simp only [decide_eq_true_eq, decide_eq_false_iff_not, Bool.and_eq_true, Bool.or_eq_true, Bool.and_eq_false_iff, Bool.or_eq_false_iff, Bool.not_eq_true', Bool.not_eq_false'] at hq)); first | (refine digit_ok _ _ ?_; omega))); (focus (intro φ h; (simp; (try (simp (disch := omega) only [wrap_i64_id, wrap_u64_id, dl_get]; try simp))); with_reducible exact h)); (focus (intro φ h; (simp; (try (simp (disch := omega) only [wrap_i64_id, wrap_u64_id, dl_get]; try simp))); with_reducible exact h)))
    | (refine rxcg2 [false, false] (xs := ?_) (ys := ?_) (r := ?_) (x := ?_) (R := ?_) (rd := ?_) (b := ?_) (E' := ?_) rfl ?_ rfl ?_ ?_ ?_ ?_ ?_; rotate_left 8; (focus (intro φ h; (simp; (try (simp (disch := omega) only [wrap_i64_id, wrap_u64_id, dl_get]; try simp))); with_reducible exact h)); (focus (intro hw φ h; obtain ⟨hw1, hw2⟩ := hw; (try (have hq1 := Eq.trans (by assumption) hw1; simp only [decide_eq_true_eq, decide_eq_false_iff_not, Bool.and_eq_true, Bool.or_eq_true, Bool.and_eq_false_iff, Bool.or_eq_false_iff, Bool.not_eq_true', Bool.not_eq_false'] at hq1)); (try (have hq2 := Eq.trans (by assumption) hw2; simp only [decide_eq_true_eq, decide_eq_false_iff_not, Bool.and_eq_true, Bool.or_eq_true, Bool.and_eq_false_iff, Bool.or_eq_false_iff, Bool.not_eq_true', Bool.not_eq_false'] at hq2)); (simp [hw1, hw2]; (try (simp (disch := omega) only [wrap_i64_id, wrap_u64_id, dl_get]; try simp))); with_reducible exact h)); (focus (intro hw; obtain ⟨hw1, hw2⟩ := hw; (try (have hq1 := Eq.trans (by assumption) hw1; simp only [decide_eq_true_eq, decide_eq_false_iff_not, Bool.and_eq_true, Bool.or_eq_true, Bool.and_eq_false_iff, Bool.or_eq_false_iff, Bool.not_eq_true', Bool.not_eq_false'] at hq1)); (try (have hq2 := Eq.trans (by assumption) hw2; simp only [decide_eq_true_eq, decide_eq_false_iff_not, Bool.and_eq_true, Bool.or_eq_true, Bool.and_eq_false_iff, Bool.or_eq_false_iff, Bool.not_eq_true', Bool.not_eq_false'] at hq2)); first | (refine digit_ok _ _ ?_; omega))); (focus (intro φ h; (simp; (try (simp (disch := omega) only [wrap_i64_id, wrap_u64_id, dl_get]; try simp))); with_reducible exact h)); (focus (intro φ h; (simp; (try (simp (disch := omega) only [wrap_i64_id, wrap_u64_id, dl_get]; try simp))); with_reducible exact h)))
    | (refine rxg (ok := true) (x := ?_) (rd := ?_) (b := ?_) (E' := ?_) rfl ?_ ?_ (fun _ => rfl) ?_ ?_; rotate_left 4; (focus (intro φ h; (simp; (try (simp (disch := omega) only [wrap_i64_id, wrap_u64_id, dl_get]; try simp))); with_reducible exact h)); (focus (intro hw φ h; (try (have hq := Eq.trans (by assumption) hw; simp only [decide_eq_true_eq, decide_eq_false_iff_not, Bool.and_eq_true, Bool.or_eq_true, Bool.and_eq_false_iff, Bool.or_eq_false_iff, Bool.not_eq_true', Bool.not_eq_false'] at hq)); (simp [hw]; (try (simp (disch := omega) only [wrap_i64_id, wrap_u64_id, dl_get]; try simp))); with_reducible exact h)); (focus (intro φ h; (simp; (try (simp (disch := omega) only [wrap_i64_id, wrap_u64_id, dl_get]; try simp))); with_reducible exact h)))
    | (refine rxg2 (ok := true) (x := ?_) (rd := ?_) (b := ?_) (E' := ?_) (c0 := ?_) (w0 := ?_) rfl ?_ ?_ (fun _ => rfl) ?_ ?_; rotate_left 6; (focus (intro φ h; (simp; (try (simp (disch := omega) only [wrap_i64_id, wrap_u64_id, dl_get]; try simp))); with_reducible exact h)); (focus (intro hw φ h; obtain ⟨hw1, hw2⟩ := hw; (try (have hq1 := Eq.trans (by assumption) hw1; simp only [decide_eq_true_eq, decide_eq_false_iff_not, Bool.and_eq_true, Bool.or_eq_true, Bool.and_eq_false_iff, Bool.or_eq_false_iff, Bool.not_eq_true', Bool.not_eq_false'] at hq1)); (try (have hq2 := Eq.trans (by assumption) hw2; simp only [decide_eq_true_eq, decide_eq_false_iff_not, Bool.and_eq_true, Bool.or_eq_true, Bool.and_eq_false_iff, Bool.or_eq_false_iff, Bool.not_eq_true', Bool.not_eq_false'] at hq2)); (simp [hw1, hw2]; (try (simp (disch := omega) only [wrap_i64_id, wrap_u64_id, dl_get]; try simp))); with_reducible exact h)); (focus (intro φ h; (simp; (try (simp (disch := omega) only [wrap_i64_id, wrap_u64_id, dl_get]; try simp))); with_reducible exact h)))
    | (refine rxg (ok := ?_) (x := ?_) (rd := ?_) (b := ?_) (E' := ?_) rfl ?_ ?_ ?_ ?_ ?_; rotate_left 5; (focus (intro φ h; (simp; (try (simp (disch := omega) only [wrap_i64_id, wrap_u64_id, dl_get]; try simp))); with_reducible exact h)); (focus (intro hw φ h; (try (have hq := Eq.trans (by assumption) hw; simp only [decide_eq_true_eq, decide_eq_false_iff_not, Bool.and_eq_true, Bool.or_eq_true, Bool.and_eq_false_iff, Bool.or_eq_false_iff, Bool.not_eq_true', Bool.not_eq_false'] at hq)); (simp [hw]; (try (simp (disch := omega) only [wrap_i64_id, wrap_u64_id, dl_get]; try simp))); with_reducible exact h)); (focus (intro hw; (try (have hq := Eq.trans (by assumption) hw; simp only [decide_eq_true_eq, decide_eq_false_iff_not, Bool.and_eq_true, Bool.or_eq_true, Bool.and_eq_false_iff, Bool.or_eq_false_iff, Bool.not_eq_true', Bool.not_eq_false'] at hq)); (first | with_reducible rfl | (simp; done) | (simp; omega) | rfl | (simp (disch := omega); done)))); (focus (intro φ h; (simp; (try (simp (disch := omega) only [wrap_i64_id, wrap_u64_id, dl_get]; try simp))); with_reducible exact h)))
    | (refine rxg2 (ok := ?_) (x := ?_) (rd := ?_) (b := ?_) (E' := ?_) (c0 := ?_) (w0 := ?_) rfl ?_ ?_ ?_ ?_ ?_; rotate_left 7; (focus (intro φ h; (simp; (try (simp (disch := omega) only [wrap_i64_id, wrap_u64_id, dl_get]; try simp))); with_reducible exact h)); (focus (intro hw φ h; obtain ⟨hw1, hw2⟩ := hw; (try (have hq1 := Eq.trans (by assumption) hw1; simp only [decide_eq_true_eq, decide_eq_false_iff_not, Bool.and_eq_true, Bool.or_eq_true, Bool.and_eq_false_iff, Bool.or_eq_false_iff, Bool.not_eq_true', Bool.not_eq_false'] at hq1)); (try (have hq2 := Eq.trans (by assumption) hw2; simp only [decide_eq_true_eq, decide_eq_false_iff_not, Bool.and_eq_true, Bool.or_eq_true, Bool.and_eq_false_iff, Bool.or_eq_false_iff, Bool.not_eq_true', Bool.not_eq_false'] at hq2)); (simp [hw1, hw2]; (try (simp (disch := omega) only [wrap_i64_id, wrap_u64_id, dl_get]; try simp))); with_reducible exact h)); (focus (intro hw; obtain ⟨hw1, hw2⟩ := hw; (try (have hq1 := Eq.trans (by assumption) hw1; simp only [decide_eq_true_eq, decide_eq_false_iff_not, Bool.and_eq_true, Bool.or_eq_true, Bool.and_eq_false_iff, Bool.or_eq_false_iff, Bool.not_eq_true', Bool.not_eq_false'] at hq1)); (try (have hq2 := Eq.trans (by assumption) hw2; simp only [decide_eq_true_eq, decide_eq_false_iff_not, Bool.and_eq_true, Bool.or_eq_true, Bool.and_eq_false_iff, Bool.or_eq_false_iff, Bool.not_eq_true', Bool.not_eq_false'] at hq2)); (first | with_reducible rfl | (simp; done) | (simp; omega) | rfl | (simp (disch := omega); done)))); (focus (intro φ h; (simp; (try (simp (disch := omega) only [wrap_i64_id, wrap_u64_id, dl_get]; try simp))); with_reducible exact h)))
    | (refine pt_cond (b := ?_) ?_ ?_ ?_; rotate_left 1; (focus (intro φ h; (simp; (try (simp (disch := omega) only [wrap_i64_id, wrap_u64_id, dl_get]; try simp))); with_reducible exact h)))
    | (refine pt_end [] (by first | exact .inr rfl | exact .inl rfl) ?_ ?_ ?_ ?_; (focus (simp; done)); rotate_left 1; (focus (simp; done)); (focus (simp; done)))
    | (intro hb; first | cases hb | cases ((hb.symm.trans (by assumption)) : true = false) | cases ((hb.symm.trans (by assumption)) : false = true) | (simp only [decide_eq_true_eq, decide_eq_false_iff_not, Bool.and_eq_true, Bool.or_eq_true, Bool.and_eq_false_iff, Bool.or_eq_false_iff, Bool.not_eq_true', Bool.not_eq_false'] at hb) | skip)
  · have hlive : (i < a.length ∨ i < b.length) ∨ 0 < c0 := by subst_vars; simpa using hb
    have hm := mask32 (c0 + (dig a i + dig b i)) (by omega) (by omega)
    have hf : (c0 + (dig a i + dig b i)).fdiv 4294967296 = (c0 + (dig a i + dig b i)) / 4294967296 := Int.fdiv_eq_ediv_of_nonneg _ (by omega)
    have hz : ¬ (i < a.length ∨ i < b.length) → dig a i = 0 ∧ dig b i = 0 ∧ a.drop i = [] ∧ b.drop i = [] ∧ a.drop (i + 1) = [] ∧ b.drop (i + 1) = [] := by
      intro hn
      obtain ⟨k1, k2, k3⟩ := dig_out a i (by omega)
      obtain ⟨l1, l2, l3⟩ := dig_out b i (by omega)
      exact ⟨k1, l1, k2, l2, k3, l3⟩
    refine loopQ_n (i + 1, (c0 + (dig a i + dig b i)).fdiv 4294967296, out ++ [bits .and .u64 (c0 + (dig a i + dig b i)) 4294967295]) ?_ ?_ (wk_ren [(10, some 12)] (by simp) (by simp) (by simp))
    · simp only [hm, hf]
      refine ⟨by omega, by omega, by omega, fun hgt => ?_, by simp; omega, ?_⟩
      · have := hz (by omega)
        omega
      · rw [← h6, List.append_assoc]
        congr 1
        by_cases hi : i < a.length ∨ i < b.length
        · rw [addL_step a b i c0 hi, show dig a i + dig b i + c0 = c0 + (dig a i + dig b i) by omega]
          rfl
        · obtain ⟨k1, k2, k3, k4, k5, k6⟩ := hz hi
          have hc0 : 0 < c0 := hlive.resolve_left hi
          have hc1 : c0 = 1 := by omega
          rw [k1, k2, k3, k4, k5, k6, hc1]
          simp [addL]
    · show max a.length b.length + 1 - (i + 1) < max a.length b.length + 1 - i
      by_cases hi : i < a.length ∨ i < b.length
      · omega
      · have hc0 : 0 < c0 := hlive.resolve_left hi
        have : ¬ max a.length b.length < i := fun h => by have := h4 h; omega
        omega
  · have hdead : ¬ (i < a.length) ∧ ¬ (i < b.length) ∧ ¬ 0 < c0 := by subst_vars; simpa [and_assoc] using hb
    obtain ⟨k1, k2, k3⟩ := dig_out a i (by omega)
    obtain ⟨l1, l2, l3⟩ := dig_out b i (by omega)
    have he : out = addL a b 0 := by rw [← h6, k2, l2, addL, if_neg hdead.2.2, List.append_nil]
    exact pt_end [(0, some 10)] (.inr rfl) (by simp) (by simp) (by simp [he]) (by simp)
end Go.Proofs.Ytikfkipalifohaa
