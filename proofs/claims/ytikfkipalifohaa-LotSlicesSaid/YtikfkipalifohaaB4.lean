/- novationref1's numbers: which of two is greater; differences of digits. -/
import Derived.Test.YtikfkipalifohaaB3
namespace Go.Proofs.Ytikfkipalifohaa
open Go Go.Proofs.Ytikfkipalifohaa.A
set_option maxRecDepth 100000
set_option maxHeartbeats 4000000
set_option linter.unusedSimpArgs false
set_option linter.unusedVariables false

def cmpG (a b : List Int) : Nat → Int
  | 0 => 0
  | n + 1 => if dig a n < dig b n then -1 else if dig b n < dig a n then 1 else cmpG a b n
def cmpL (a b : List Int) : Int := if a.length = b.length then cmpG a b a.length else if a.length < b.length then -1 else 1
theorem cmpSizes_ok (a b : List Int) (la : a.length < 1000000000) (lb : b.length < 1000000000) :
    FnOK Go.Proofs.Try.prog 40 [.d (.list (dl a)), .d (.list (dl b))] (.d (.int .i64 (cmpL a b))) [] := by
  refine fn_ok Go.Proofs.Try.func40 rfl (by kernel_rfl) mix Go.Proofs.Try.ntmps40 rfl (by kernel_rfl) (by kernel_rfl) ?_
  repeat' first
    | refine rx_nil ?_
    | refine pw_seq ?_
    | refine pt_region ?_
    | refine thenQ_n ?_
    | refine thenQ_r ?_
    | refine thenQ_e ?_
    | refine pw_ret ?_
    | refine pw_skip ?_
    | refine pw_label ?_
    | refine pw_exit ?_
    | refine pw_block ?_
    | refine blockQ_n ?_
    | refine blockQ_r ?_
    | refine blockQ_e ?_
    | refine blockQ_x rfl ?_
    | refine loopQ_e ?_
    | refine loopQ_r ?_
    | (refine pt_draw ?_)
    | (refine And.intro (by kernel_rfl) ?_)
    | (refine rx_movb (b := ?_) ?_ ?_; rotate_left 1; (focus (intro φ h; (simp; (try (simp (disch := omega) only [wrap_i64_id, wrap_u64_id, dl_get]; try simp))); with_reducible exact h)); intro c hc)
    | (refine rx (ok := true) (E' := ?_) (σ' := ?_) (nx' := ?_) (s := ?_) ?_ rfl ?_; rotate_left 4; (focus (intro φ h; (simp; (try (simp (disch := omega) only [wrap_i64_id, wrap_u64_id, dl_get]; try simp))); with_reducible exact h)))
    | (refine rx (ok := ?_) (E' := ?_) (σ' := ?_) (nx' := ?_) (s := ?_) ?_ ?_ ?_; rotate_left 5; (focus (intro φ h; (simp; (try (simp (disch := omega) only [wrap_i64_id, wrap_u64_id, dl_get]; try simp))); with_reducible exact h)); (focus (first | with_reducible rfl | (simp; done) | (simp; omega) | rfl)))
    | (refine rxg_movb (b := ?_) (b' := ?_) rfl ?_ ?_ ?_; rotate_left 2; (focus (intro φ h; (simp; (try (simp (disch := omega) only [wrap_i64_id, wrap_u64_id, dl_get]; try simp))); with_reducible exact h)); (focus (intro hw φ h; (try (have hq := Eq.trans (by assumption) hw; simp only [decide_eq_true_eq, decide_eq_false_iff_not, Bool.and_eq_true, Bool.or_eq_true, Bool.and_eq_false_iff, Bool.or_eq_false_iff, Bool.not_eq_true', Bool.not_eq_false'] at hq)); (simp [hw]; (try (simp (disch := omega) only [wrap_i64_id, wrap_u64_id, dl_get]; try simp))); with_reducible exact h)); intro c hc)
    | (refine rxg (ok := true) (x := ?_) (rd := ?_) (b := ?_) (E' := ?_) rfl ?_ ?_ (fun _ => rfl) ?_ ?_; rotate_left 4; (focus (intro φ h; (simp; (try (simp (disch := omega) only [wrap_i64_id, wrap_u64_id, dl_get]; try simp))); with_reducible exact h)); (focus (intro hw φ h; (try (have hq := Eq.trans (by assumption) hw; simp only [decide_eq_true_eq, decide_eq_false_iff_not, Bool.and_eq_true, Bool.or_eq_true, Bool.and_eq_false_iff, Bool.or_eq_false_iff, Bool.not_eq_true', Bool.not_eq_false'] at hq)); (simp [hw]; (try (simp (disch := omega) only [wrap_i64_id, wrap_u64_id, dl_get]; try simp))); with_reducible exact h)); (focus (intro φ h; (simp; (try (simp (disch := omega) only [wrap_i64_id, wrap_u64_id, dl_get]; try simp))); with_reducible exact h)))
    | (refine rxg2 (ok := true) (x := ?_) (rd := ?_) (b := ?_) (E' := ?_) (c0 := ?_) (w0 := ?_) rfl ?_ ?_ (fun _ => rfl) ?_ ?_; rotate_left 6; (focus (intro φ h; (simp; (try (simp (disch := omega) only [wrap_i64_id, wrap_u64_id, dl_get]; try simp))); with_reducible exact h)); (focus (intro hw φ h; obtain ⟨hw1, hw2⟩ := hw; (try (have hq1 := Eq.trans (by assumption) hw1; simp only [decide_eq_true_eq, decide_eq_false_iff_not, Bool.and_eq_true, Bool.or_eq_true, Bool.and_eq_false_iff, Bool.or_eq_false_iff, Bool.not_eq_true', Bool.not_eq_false'] at hq1)); (try (have hq2 := Eq.trans (by assumption) hw2; simp only [decide_eq_true_eq, decide_eq_false_iff_not, Bool.and_eq_true, Bool.or_eq_true, Bool.and_eq_false_iff, Bool.or_eq_false_iff, Bool.not_eq_true', Bool.not_eq_false'] at hq2)); (simp [hw1, hw2]; (try (simp (disch := omega) only [wrap_i64_id, wrap_u64_id, dl_get]; try simp))); with_reducible exact h)); (focus (intro φ h; (simp; (try (simp (disch := omega) only [wrap_i64_id, wrap_u64_id, dl_get]; try simp))); with_reducible exact h)))
    | (refine rxg (ok := ?_) (x := ?_) (rd := ?_) (b := ?_) (E' := ?_) rfl ?_ ?_ ?_ ?_ ?_; rotate_left 5; (focus (intro φ h; (simp; (try (simp (disch := omega) only [wrap_i64_id, wrap_u64_id, dl_get]; try simp))); with_reducible exact h)); (focus (intro hw φ h; (try (have hq := Eq.trans (by assumption) hw; simp only [decide_eq_true_eq, decide_eq_false_iff_not, Bool.and_eq_true, Bool.or_eq_true, Bool.and_eq_false_iff, Bool.or_eq_false_iff, Bool.not_eq_true', Bool.not_eq_false'] at hq)); (simp [hw]; (try (simp (disch := omega) only [wrap_i64_id, wrap_u64_id, dl_get]; try simp))); with_reducible exact h)); (focus (intro hw; (try (have hq := Eq.trans (by assumption) hw; simp only [decide_eq_true_eq, decide_eq_false_iff_not, Bool.and_eq_true, Bool.or_eq_true, Bool.and_eq_false_iff, Bool.or_eq_false_iff, Bool.not_eq_true', Bool.not_eq_false'] at hq)); (first | with_reducible rfl | (simp; done) | (simp; omega) | rfl | (simp (disch := omega); done)))); (focus (intro φ h; (simp; (try (simp (disch := omega) only [wrap_i64_id, wrap_u64_id, dl_get]; try simp))); with_reducible exact h)))
    | (refine rxg2 (ok := ?_) (x := ?_) (rd := ?_) (b := ?_) (E' := ?_) (c0 := ?_) (w0 := ?_) rfl ?_ ?_ ?_ ?_ ?_; rotate_left 7; (focus (intro φ h; (simp; (try (simp (disch := omega) only [wrap_i64_id, wrap_u64_id, dl_get]; try simp))); with_reducible exact h)); (focus (intro hw φ h; obtain ⟨hw1, hw2⟩ := hw; (try (have hq1 := Eq.trans (by assumption) hw1; simp only [decide_eq_true_eq, decide_eq_false_iff_not, Bool.and_eq_true, Bool.or_eq_true, Bool.and_eq_false_iff, Bool.or_eq_false_iff, Bool.not_eq_true', Bool.not_eq_false'] at hq1)); (try (have hq2 := Eq.trans (by assumption) hw2; simp only [decide_eq_true_eq, decide_eq_false_iff_not, Bool.and_eq_true, Bool.or_eq_true, Bool.and_eq_false_iff, Bool.or_eq_false_iff, Bool.not_eq_true', Bool.not_eq_false'] at hq2)); (simp [hw1, hw2]; (try (simp (disch := omega) only [wrap_i64_id, wrap_u64_id, dl_get]; try simp))); with_reducible exact h)); (focus (intro hw; obtain ⟨hw1, hw2⟩ := hw; (try (have hq1 := Eq.trans (by assumption) hw1; simp only [decide_eq_true_eq, decide_eq_false_iff_not, Bool.and_eq_true, Bool.or_eq_true, Bool.and_eq_false_iff, Bool.or_eq_false_iff, Bool.not_eq_true', Bool.not_eq_false'] at hq1)); (try (have hq2 := Eq.trans (by assumption) hw2; simp only [decide_eq_true_eq, decide_eq_false_iff_not, Bool.and_eq_true, Bool.or_eq_true, Bool.and_eq_false_iff, Bool.or_eq_false_iff, Bool.not_eq_true', Bool.not_eq_false'] at hq2)); (first | with_reducible rfl | (simp; done) | (simp; omega) | rfl | (simp (disch := omega); done)))); (focus (intro φ h; (simp; (try (simp (disch := omega) only [wrap_i64_id, wrap_u64_id, dl_get]; try simp))); with_reducible exact h)))
    | (refine pt_cond (b := ?_) ?_ ?_ ?_; rotate_left 1; (focus (intro φ h; (simp; (try (simp (disch := omega) only [wrap_i64_id, wrap_u64_id, dl_get]; try simp))); with_reducible exact h)))
    | (refine pt_end [] (by first | exact .inr rfl | exact .inl rfl) ?_ ?_ ?_ ?_; (focus (simp; done)); rotate_left 1; (focus (simp; done)); (focus (simp; done)))
    | (intro hb; first | cases hb | cases ((hb.symm.trans (by assumption)) : true = false) | cases ((hb.symm.trans (by assumption)) : false = true) | (simp only [decide_eq_true_eq, decide_eq_false_iff_not, Bool.and_eq_true, Bool.or_eq_true, Bool.and_eq_false_iff, Bool.or_eq_false_iff, Bool.not_eq_true', Bool.not_eq_false'] at hb) | skip)
  · simp [cmpL, *]; omega
  · simp [cmpL, *]; omega
  have hl : a.length = b.length := by omega
  refine pt_loop (fun n : Nat => [(0, .d (.list (dl a))), (1, .d (.list (dl b))), (5, .d (.int .i64 ((n : Int) - 1)))]) (fun _ => []) 2 (fun n => n ≤ a.length ∧ cmpG a b n = cmpL a b) (fun n => n) a.length ⟨Nat.le_refl _, by simp [cmpL, hl]⟩ (wk_ren [] (by simp) (by simp) (by simp)) ?_
  intro n ⟨hn1, hn2⟩
  repeat' first
    | refine rx_nil ?_
    | refine pw_seq ?_
    | refine pt_region ?_
    | refine thenQ_n ?_
    | refine thenQ_r ?_
    | refine thenQ_e ?_
    | refine pw_ret ?_
    | refine pw_skip ?_
    | refine pw_label ?_
    | refine pw_exit ?_
    | refine pw_block ?_
    | refine blockQ_n ?_
    | refine blockQ_r ?_
    | refine blockQ_e ?_
    | refine blockQ_x rfl ?_
    | refine loopQ_e ?_
    | refine loopQ_r ?_
    | (refine pt_draw ?_)
    | (refine And.intro (by kernel_rfl) ?_)
    | (refine rx_movb (b := ?_) ?_ ?_; rotate_left 1; (focus (intro φ h; (simp; (try (simp (disch := omega) only [wrap_i64_id, wrap_u64_id, dl_get]; try simp))); with_reducible exact h)); intro c hc)
    | (refine rx (ok := true) (E' := ?_) (σ' := ?_) (nx' := ?_) (s := ?_) ?_ rfl ?_; rotate_left 4; (focus (intro φ h; (simp; (try (simp (disch := omega) only [wrap_i64_id, wrap_u64_id, dl_get]; try simp))); with_reducible exact h)))
    | (refine rx (ok := ?_) (E' := ?_) (σ' := ?_) (nx' := ?_) (s := ?_) ?_ ?_ ?_; rotate_left 5; (focus (intro φ h; (simp; (try (simp (disch := omega) only [wrap_i64_id, wrap_u64_id, dl_get]; try simp))); with_reducible exact h)); (focus (first | with_reducible rfl | (simp; done) | (simp; omega) | rfl)))
    | (refine rxg_movb (b := ?_) (b' := ?_) rfl ?_ ?_ ?_; rotate_left 2; (focus (intro φ h; (simp; (try (simp (disch := omega) only [wrap_i64_id, wrap_u64_id, dl_get]; try simp))); with_reducible exact h)); (focus (intro hw φ h; (try (have hq := Eq.trans (by assumption) hw; simp only [decide_eq_true_eq, decide_eq_false_iff_not, Bool.and_eq_true, Bool.or_eq_true, Bool.and_eq_false_iff, Bool.or_eq_false_iff, Bool.not_eq_true', Bool.not_eq_false'] at hq)); (simp [hw]; (try (simp (disch := omega) only [wrap_i64_id, wrap_u64_id, dl_get]; try simp))); with_reducible exact h)); intro c hc)
    | (refine rxg (ok := true) (x := ?_) (rd := ?_) (b := ?_) (E' := ?_) rfl ?_ ?_ (fun _ => rfl) ?_ ?_; rotate_left 4; (focus (intro φ h; (simp; (try (simp (disch := omega) only [wrap_i64_id, wrap_u64_id, dl_get]; try simp))); with_reducible exact h)); (focus (intro hw φ h; (try (have hq := Eq.trans (by assumption) hw; simp only [decide_eq_true_eq, decide_eq_false_iff_not, Bool.and_eq_true, Bool.or_eq_true, Bool.and_eq_false_iff, Bool.or_eq_false_iff, Bool.not_eq_true', Bool.not_eq_false'] at hq)); (simp [hw]; (try (simp (disch := omega) only [wrap_i64_id, wrap_u64_id, dl_get]; try simp))); with_reducible exact h)); (focus (intro φ h; (simp; (try (simp (disch := omega) only [wrap_i64_id, wrap_u64_id, dl_get]; try simp))); with_reducible exact h)))
    | (refine rxg2 (ok := true) (x := ?_) (rd := ?_) (b := ?_) (E' := ?_) (c0 := ?_) (w0 := ?_) rfl ?_ ?_ (fun _ => rfl) ?_ ?_; rotate_left 6; (focus (intro φ h; (simp; (try (simp (disch := omega) only [wrap_i64_id, wrap_u64_id, dl_get]; try simp))); with_reducible exact h)); (focus (intro hw φ h; obtain ⟨hw1, hw2⟩ := hw; (try (have hq1 := Eq.trans (by assumption) hw1; simp only [decide_eq_true_eq, decide_eq_false_iff_not, Bool.and_eq_true, Bool.or_eq_true, Bool.and_eq_false_iff, Bool.or_eq_false_iff, Bool.not_eq_true', Bool.not_eq_false'] at hq1)); (try (have hq2 := Eq.trans (by assumption) hw2; simp only [decide_eq_true_eq, decide_eq_false_iff_not, Bool.and_eq_true, Bool.or_eq_true, Bool.and_eq_false_iff, Bool.or_eq_false_iff, Bool.not_eq_true', Bool.not_eq_false'] at hq2)); (simp [hw1, hw2]; (try (simp (disch := omega) only [wrap_i64_id, wrap_u64_id, dl_get]; try simp))); with_reducible exact h)); (focus (intro φ h; (simp; (try (simp (disch := omega) only [wrap_i64_id, wrap_u64_id, dl_get]; try simp))); with_reducible exact h)))
    | (refine rxg (ok := ?_) (x := ?_) (rd := ?_) (b := ?_) (E' := ?_) rfl ?_ ?_ ?_ ?_ ?_; rotate_left 5; (focus (intro φ h; (simp; (try (simp (disch := omega) only [wrap_i64_id, wrap_u64_id, dl_get]; try simp))); with_reducible exact h)); (focus (intro hw φ h; (try (have hq := Eq.trans (by assumption) hw; simp only [decide_eq_true_eq, decide_eq_false_iff_not, Bool.and_eq_true, Bool.or_eq_true, Bool.and_eq_false_iff, Bool.or_eq_false_iff, Bool.not_eq_true', Bool.not_eq_false'] at hq)); (simp [hw]; (try (simp (disch := omega) only [wrap_i64_id, wrap_u64_id, dl_get]; try simp))); with_reducible exact h)); (focus (intro hw; (try (have hq := Eq.trans (by assumption) hw; simp only [decide_eq_true_eq, decide_eq_false_iff_not, Bool.and_eq_true, Bool.or_eq_true, Bool.and_eq_false_iff, Bool.or_eq_false_iff, Bool.not_eq_true', Bool.not_eq_false'] at hq)); (first | with_reducible rfl | (simp; done) | (simp; omega) | rfl | (simp (disch := omega); done)))); (focus (intro φ h; (simp; (try (simp (disch := omega) only [wrap_i64_id, wrap_u64_id, dl_get]; try simp))); with_reducible exact h)))
    | (refine rxg2 (ok := ?_) (x := ?_) (rd := ?_) (b := ?_) (E' := ?_) (c0 := ?_) (w0 := ?_) rfl ?_ ?_ ?_ ?_ ?_; rotate_left 7; (focus (intro φ h; (simp; (try (simp (disch := omega) only [wrap_i64_id, wrap_u64_id, dl_get]; try simp))); with_reducible exact h)); (focus (intro hw φ h; obtain ⟨hw1, hw2⟩ := hw; (try (have hq1 := Eq.trans (by assumption) hw1; simp only [decide_eq_true_eq, decide_eq_false_iff_not, Bool.and_eq_true, Bool.or_eq_true, Bool.and_eq_false_iff, Bool.or_eq_false_iff, Bool.not_eq_true', Bool.not_eq_false'] at hq1)); (try (have hq2 := Eq.trans (by assumption) hw2; simp only [decide_eq_true_eq, decide_eq_false_iff_not, Bool.and_eq_true, Bool.or_eq_true, Bool.and_eq_false_iff, Bool.or_eq_false_iff, Bool.not_eq_true', Bool.not_eq_false'] at hq2)); (simp [hw1, hw2]; (try (simp (disch := omega) only [wrap_i64_id, wrap_u64_id, dl_get]; try simp))); with_reducible exact h)); (focus (intro hw; obtain ⟨hw1, hw2⟩ := hw; (try (have hq1 := Eq.trans (by assumption) hw1; simp only [decide_eq_true_eq, decide_eq_false_iff_not, Bool.and_eq_true, Bool.or_eq_true, Bool.and_eq_false_iff, Bool.or_eq_false_iff, Bool.not_eq_true', Bool.not_eq_false'] at hq1)); (try (have hq2 := Eq.trans (by assumption) hw2; simp only [decide_eq_true_eq, decide_eq_false_iff_not, Bool.and_eq_true, Bool.or_eq_true, Bool.and_eq_false_iff, Bool.or_eq_false_iff, Bool.not_eq_true', Bool.not_eq_false'] at hq2)); (first | with_reducible rfl | (simp; done) | (simp; omega) | rfl | (simp (disch := omega); done)))); (focus (intro φ h; (simp; (try (simp (disch := omega) only [wrap_i64_id, wrap_u64_id, dl_get]; try simp))); with_reducible exact h)))
    | (refine pt_cond (b := ?_) ?_ ?_ ?_; rotate_left 1; (focus (intro φ h; (simp; (try (simp (disch := omega) only [wrap_i64_id, wrap_u64_id, dl_get]; try simp))); with_reducible exact h)))
    | (refine pt_end [] (by first | exact .inr rfl | exact .inl rfl) ?_ ?_ ?_ ?_; (focus (simp; done)); rotate_left 1; (focus (simp; done)); (focus (simp; done)))
    | (intro hb; first | cases hb | cases ((hb.symm.trans (by assumption)) : true = false) | cases ((hb.symm.trans (by assumption)) : false = true) | (simp only [decide_eq_true_eq, decide_eq_false_iff_not, Bool.and_eq_true, Bool.or_eq_true, Bool.and_eq_false_iff, Bool.or_eq_false_iff, Bool.not_eq_true', Bool.not_eq_false'] at hb) | skip)
  · obtain ⟨m, rfl⟩ : ∃ m, n = m + 1 := ⟨n - 1, by omega⟩
    simp only [Nat.add_sub_cancel] at *
    simp [← hn2, cmpG, *]
  · obtain ⟨m, rfl⟩ : ∃ m, n = m + 1 := ⟨n - 1, by omega⟩
    simp only [Nat.add_sub_cancel] at *
    simp [← hn2, cmpG, *]
  · obtain ⟨m, rfl⟩ : ∃ m, n = m + 1 := ⟨n - 1, by omega⟩
    refine loopQ_n m ⟨by omega, ?_⟩ (by omega) (wk_ren [] (by simp) (by simp) (by simp))
    simp only [Nat.add_sub_cancel] at *
    rw [← hn2]
    simp [cmpG, *]
  · obtain rfl : n = 0 := by omega
    simp [← hn2, cmpG]

/-- novationref1.subSizes -/
def subL : List Int → List Int → Int → List Int
  | [], _, _ => []
  | x :: xs, ys, c => if x < dig ys 0 + c then (x + 4294967296 - (dig ys 0 + c)) :: subL xs (ys.drop 1) 1 else (x - (dig ys 0 + c)) :: subL xs (ys.drop 1) 0
theorem dig_drop0 (a : List Int) (i : Nat) : dig (a.drop i) 0 = dig a i := by simp [dig, List.getD_eq_getElem?_getD]
theorem subL_step (a b : List Int) (i : Nat) (c : Int) (h : i < a.length) :
    subL (a.drop i) (b.drop i) c = if dig a i < dig b i + c then (dig a i + 4294967296 - (dig b i + c)) :: subL (a.drop (i + 1)) (b.drop (i + 1)) 1 else (dig a i - (dig b i + c)) :: subL (a.drop (i + 1)) (b.drop (i + 1)) 0 := by
  rw [dig_drop a i h, subL, dig_drop0, List.drop_drop]
theorem subSizes_ok (a b : List Int) (ha : DOK a) (hb : DOK b) (la : a.length < 1000000000) (lb : b.length < 1000000000) :
    FnOK Go.Proofs.Try.prog 41 [.d (.list (dl a)), .d (.list (dl b))] (.own 0) [(0, some (.row 22 1 (dl (subL a b 0))))] := by
  refine fn_ok Go.Proofs.Try.func41 rfl (by kernel_rfl) mix Go.Proofs.Try.ntmps41 rfl (by kernel_rfl) (by kernel_rfl) ?_
  repeat' first
    | refine rx_nil ?_
    | refine pw_seq ?_
    | refine pt_region ?_
    | refine thenQ_n ?_
    | refine thenQ_r ?_
    | refine thenQ_e ?_
    | refine pw_ret ?_
    | refine pw_skip ?_
    | refine pw_label ?_
    | refine pw_exit ?_
    | refine pw_block ?_
    | refine blockQ_n ?_
    | refine blockQ_r ?_
    | refine blockQ_e ?_
    | refine blockQ_x rfl ?_
    | refine loopQ_e ?_
    | refine loopQ_r ?_
    | (refine pt_draw ?_)
    | (refine And.intro (by kernel_rfl) ?_)
    | (refine rx_movb (b := ?_) ?_ ?_; rotate_left 1; (focus (intro φ h; (simp; (try (simp (disch := omega) only [wrap_i64_id, wrap_u64_id, dl_get]; try simp))); with_reducible exact h)); intro c hc)
    | (refine rx (ok := true) (E' := ?_) (σ' := ?_) (nx' := ?_) (s := ?_) ?_ rfl ?_; rotate_left 4; (focus (intro φ h; (simp; (try (simp (disch := omega) only [wrap_i64_id, wrap_u64_id, dl_get]; try simp))); with_reducible exact h)))
    | (refine rx (ok := ?_) (E' := ?_) (σ' := ?_) (nx' := ?_) (s := ?_) ?_ ?_ ?_; rotate_left 5; (focus (intro φ h; (simp; (try (simp (disch := omega) only [wrap_i64_id, wrap_u64_id, dl_get]; try simp))); with_reducible exact h)); (focus (first | with_reducible rfl | (simp; done) | (simp; omega) | rfl)))
    | (refine rxg_movb (b := ?_) (b' := ?_) rfl ?_ ?_ ?_; rotate_left 2; (focus (intro φ h; (simp; (try (simp (disch := omega) only [wrap_i64_id, wrap_u64_id, dl_get]; try simp))); with_reducible exact h)); (focus (intro hw φ h; (try (have hq := Eq.trans (by assumption) hw; simp only [decide_eq_true_eq, decide_eq_false_iff_not, Bool.and_eq_true, Bool.or_eq_true, Bool.and_eq_false_iff, Bool.or_eq_false_iff, Bool.not_eq_true', Bool.not_eq_false'] at hq)); (simp [hw]; (try (simp (disch := omega) only [wrap_i64_id, wrap_u64_id, dl_get]; try simp))); with_reducible exact h)); intro c hc)
    | (refine rxg (ok := true) (x := ?_) (rd := ?_) (b := ?_) (E' := ?_) rfl ?_ ?_ (fun _ => rfl) ?_ ?_; rotate_left 4; (focus (intro φ h; (simp; (try (simp (disch := omega) only [wrap_i64_id, wrap_u64_id, dl_get]; try simp))); with_reducible exact h)); (focus (intro hw φ h; (try (have hq := Eq.trans (by assumption) hw; simp only [decide_eq_true_eq, decide_eq_false_iff_not, Bool.and_eq_true, Bool.or_eq_true, Bool.and_eq_false_iff, Bool.or_eq_false_iff, Bool.not_eq_true', Bool.not_eq_false'] at hq)); (simp [hw]; (try (simp (disch := omega) only [wrap_i64_id, wrap_u64_id, dl_get]; try simp))); with_reducible exact h)); (focus (intro φ h; (simp; (try (simp (disch := omega) only [wrap_i64_id, wrap_u64_id, dl_get]; try simp))); with_reducible exact h)))
    | (refine rxg2 (ok := true) (x := ?_) (rd := ?_) (b := ?_) (E' := ?_) (c0 := ?_) (w0 := ?_) rfl ?_ ?_ (fun _ => rfl) ?_ ?_; rotate_left 6; (focus (intro φ h; (simp; (try (simp (disch := omega) only [wrap_i64_id, wrap_u64_id, dl_get]; try simp))); with_reducible exact h)); (focus (intro hw φ h; obtain ⟨hw1, hw2⟩ := hw; (try (have hq1 := Eq.trans (by assumption) hw1; simp only [decide_eq_true_eq, decide_eq_false_iff_not, Bool.and_eq_true, Bool.or_eq_true, Bool.and_eq_false_iff, Bool.or_eq_false_iff, Bool.not_eq_true', Bool.not_eq_false'] at hq1)); (try (have hq2 := Eq.trans (by assumption) hw2; simp only [decide_eq_true_eq, decide_eq_false_iff_not, Bool.and_eq_true, Bool.or_eq_true, Bool.and_eq_false_iff, Bool.or_eq_false_iff, Bool.not_eq_true', Bool.not_eq_false'] at hq2)); (simp [hw1, hw2]; (try (simp (disch := omega) only [wrap_i64_id, wrap_u64_id, dl_get]; try simp))); with_reducible exact h)); (focus (intro φ h; (simp; (try (simp (disch := omega) only [wrap_i64_id, wrap_u64_id, dl_get]; try simp))); with_reducible exact h)))
    | (refine rxg (ok := ?_) (x := ?_) (rd := ?_) (b := ?_) (E' := ?_) rfl ?_ ?_ ?_ ?_ ?_; rotate_left 5; (focus (intro φ h; (simp; (try (simp (disch := omega) only [wrap_i64_id, wrap_u64_id, dl_get]; try simp))); with_reducible exact h)); (focus (intro hw φ h; (try (have hq := Eq.trans (by assumption) hw; simp only [decide_eq_true_eq, decide_eq_false_iff_not, Bool.and_eq_true, Bool.or_eq_true, Bool.and_eq_false_iff, Bool.or_eq_false_iff, Bool.not_eq_true', Bool.not_eq_false'] at hq)); (simp [hw]; (try (simp (disch := omega) only [wrap_i64_id, wrap_u64_id, dl_get]; try simp))); with_reducible exact h)); (focus (intro hw; (try (have hq := Eq.trans (by assumption) hw; simp only [decide_eq_true_eq, decide_eq_false_iff_not, Bool.and_eq_true, Bool.or_eq_true, Bool.and_eq_false_iff, Bool.or_eq_false_iff, Bool.not_eq_true', Bool.not_eq_false'] at hq)); (first | with_reducible rfl | (simp; done) | (simp; omega) | rfl | (simp (disch := omega); done)))); (focus (intro φ h; (simp; (try (simp (disch := omega) only [wrap_i64_id, wrap_u64_id, dl_get]; try simp))); with_reducible exact h)))
    | (refine rxg2 (ok := ?_) (x := ?_) (rd := ?_) (b := ?_) (E' := ?_) (c0 := ?_) (w0 := ?_) rfl ?_ ?_ ?_ ?_ ?_; rotate_left 7; (focus (intro φ h; (simp; (try (simp (disch := omega) only [wrap_i64_id, wrap_u64_id, dl_get]; try simp))); with_reducible exact h)); (focus (intro hw φ h; obtain ⟨hw1, hw2⟩ := hw; (try (have hq1 := Eq.trans (by assumption) hw1; simp only [decide_eq_true_eq, decide_eq_false_iff_not, Bool.and_eq_true, Bool.or_eq_true, Bool.and_eq_false_iff, Bool.or_eq_false_iff, Bool.not_eq_true', Bool.not_eq_false'] at hq1)); (try (have hq2 := Eq.trans (by assumption) hw2; simp only [decide_eq_true_eq, decide_eq_false_iff_not, Bool.and_eq_true, Bool.or_eq_true, Bool.and_eq_false_iff, Bool.or_eq_false_iff, Bool.not_eq_true', Bool.not_eq_false'] at hq2)); (simp [hw1, hw2]; (try (simp (disch := omega) only [wrap_i64_id, wrap_u64_id, dl_get]; try simp))); with_reducible exact h)); (focus (intro hw; obtain ⟨hw1, hw2⟩ := hw; (try (have hq1 := Eq.trans (by assumption) hw1; simp only [decide_eq_true_eq, decide_eq_false_iff_not, Bool.and_eq_true, Bool.or_eq_true, Bool.and_eq_false_iff, Bool.or_eq_false_iff, Bool.not_eq_true', Bool.not_eq_false'] at hq1)); (try (have hq2 := Eq.trans (by assumption) hw2; simp only [decide_eq_true_eq, decide_eq_false_iff_not, Bool.and_eq_true, Bool.or_eq_true, Bool.and_eq_false_iff, Bool.or_eq_false_iff, Bool.not_eq_true', Bool.not_eq_false'] at hq2)); (first | with_reducible rfl | (simp; done) | (simp; omega) | rfl | (simp (disch := omega); done)))); (focus (intro φ h; (simp; (try (simp (disch := omega) only [wrap_i64_id, wrap_u64_id, dl_get]; try simp))); with_reducible exact h)))
    | (refine pt_cond (b := ?_) ?_ ?_ ?_; rotate_left 1; (focus (intro φ h; (simp; (try (simp (disch := omega) only [wrap_i64_id, wrap_u64_id, dl_get]; try simp))); with_reducible exact h)))
    | (refine pt_end [] (by first | exact .inr rfl | exact .inl rfl) ?_ ?_ ?_ ?_; (focus (simp; done)); rotate_left 1; (focus (simp; done)); (focus (simp; done)))
    | (intro hb; first | cases hb | cases ((hb.symm.trans (by assumption)) : true = false) | cases ((hb.symm.trans (by assumption)) : false = true) | (simp only [decide_eq_true_eq, decide_eq_false_iff_not, Bool.and_eq_true, Bool.or_eq_true, Bool.and_eq_false_iff, Bool.or_eq_false_iff, Bool.not_eq_true', Bool.not_eq_false'] at hb) | skip)
  refine pt_loop (fun s : Nat × Int × List Int => [(0, .d (.list (dl a))), (1, .d (.list (dl b))), (5, .own 10), (6, .d (.int .u64 s.2.1)), (7, .d (.int .i64 s.1))]) (fun s => [(10, some (.row 22 1 (dl s.2.2)))]) 11
    (fun s => s.1 ≤ a.length ∧ 0 ≤ s.2.1 ∧ s.2.1 ≤ 1 ∧ s.2.2.length ≤ s.1 ∧ s.2.2 ++ subL (a.drop s.1) (b.drop s.1) s.2.1 = subL a b 0)
    (fun s => a.length - s.1) (0, 0, []) ⟨by simp, by simp, by simp, by simp, by simp⟩ (wk_ren [(10, none)] (by simp) (by simp) (by simp)) ?_
  rintro ⟨i, c0, out⟩ ⟨h1, h2, h3, h5, h6⟩
  simp only at h1 h2 h3 h5 h6 ⊢
  have hda := ha.dig i
  have hdb := hb.dig i
  repeat' first
    | refine rx_nil ?_
    | refine pw_seq ?_
    | refine pt_region ?_
    | refine thenQ_n ?_
    | refine thenQ_r ?_
    | refine thenQ_e ?_
    | refine pw_ret ?_
    | refine pw_skip ?_
    | refine pw_label ?_
    | refine pw_exit ?_
    | refine pw_block ?_
    | refine blockQ_n ?_
    | refine blockQ_r ?_
    | refine blockQ_e ?_
    | refine blockQ_x rfl ?_
    | refine loopQ_e ?_
    | refine loopQ_r ?_
    | (refine pt_draw ?_)
    | (refine And.intro (by kernel_rfl) ?_)
    | (refine rx_movb (b := ?_) ?_ ?_; rotate_left 1; (focus (intro φ h; (simp; (try (simp (disch := omega) only [wrap_i64_id, wrap_u64_id, dl_get]; try simp))); with_reducible exact h)); intro c hc)
    | (refine rxc [false, false] (xs := ?_) (ys := ?_) (r := ?_) (R := ?_) (s := ?_) (E' := ?_) (σ' := ?_) (nx' := ?_) rfl ?_ ?_ ?_ ?_; rotate_left 8; (focus (intro φ h; (simp; (try (simp (disch := omega) only [wrap_i64_id, wrap_u64_id, dl_get]; try simp))); with_reducible exact h)); (focus (first | (refine digit_ok _ _ ?_; omega))); (focus (intro φ h; (simp; (try (simp (disch := omega) only [wrap_i64_id, wrap_u64_id, dl_get]; try simp))); with_reducible exact h)))
    | (refine rx (ok := true) (E' := ?_) (σ' := ?_) (nx' := ?_) (s := ?_) ?_ rfl ?_; rotate_left 4; (focus (intro φ h; (simp; (try (simp (disch := omega) only [wrap_i64_id, wrap_u64_id, dl_get]; try simp))); with_reducible exact h)))
    | (refine rx (ok := ?_) (E' := ?_) (σ' := ?_) (nx' := ?_) (s := ?_) ?_ ?_ ?_; rotate_left 5; (focus (intro φ h; (simp; (try (simp (disch := omega) only [wrap_i64_id, wrap_u64_id, dl_get]; try simp))); with_reducible exact h)); (focus (first | with_reducible rfl | (simp; done) | (simp; omega) | rfl)))
    | (refine rxg_movb (b := ?_) (b' := ?_) rfl ?_ ?_ ?_; rotate_left 2; (focus (intro φ h; (simp; (try (simp (disch := omega) only [wrap_i64_id, wrap_u64_id, dl_get]; try simp))); with_reducible exact h)); (focus (intro hw φ h; (try (have hq := Eq.trans (by assumption) hw; simp only [decide_eq_true_eq, decide_eq_false_iff_not, Bool.and_eq_true, Bool.or_eq_true, Bool.and_eq_false_iff, Bool.or_eq_false_iff, Bool.not_eq_true', Bool.not_eq_false'] at hq)); (simp [hw]; (try (simp (disch := omega) only [wrap_i64_id, wrap_u64_id, dl_get]; try simp))); with_reducible exact h)); intro c hc)
    | (refine rxcg [false, false] (xs := ?_) (ys := ?_) (r := ?_) (x := ?_) (R := ?_) (rd := ?_) (b := ?_) (E' := ?_) rfl ?_ rfl ?_ ?_ ?_ ?_ ?_; rotate_left 8; (focus (intro φ h; (simp; (try (simp (disch := omega) only [wrap_i64_id, wrap_u64_id, dl_get]; try simp))); with_reducible exact h)); (focus (intro hw φ h; (try (have hq := Eq.trans (by assumption) hw; simp only [decide_eq_true_eq, decide_eq_false_iff_not, Bool.and_eq_true, Bool.or_eq_true, Bool.and_eq_false_iff, Bool.or_eq_false_iff, Bool.not_eq_true', Bool.not_eq_false'] at hq)); (simp [hw]; (try (simp (disch := omega) only [wrap_i64_id, wrap_u64_id, dl_get]; try simp))); with_reducible exact h)); (focus (intro hw; (try (have hq := Eq.trans (by assumption) hw; simp only [decide_eq_true_eq, decide_eq_false_iff_not, Bool.and_eq_true, Bool.or_eq_true, Bool.and_eq_false_iff, Bool.or_eq_false_iff, Bool.not_eq_true', Bool.not_eq_false'] at hq)); first | (refine digit_ok _ _ ?_; omega))); (focus (intro φ h; (simp; (try (simp (disch := omega) only [wrap_i64_id, wrap_u64_id, dl_get]; try simp))); with_reducible exact h)); (focus (intro φ h; (simp; (try (simp (disch := omega) only [wrap_i64_id, wrap_u64_id, dl_get]; try simp))); with_reducible exact h)))
    | (refine rxcg2 [false, false] (xs := ?_) (ys := ?_) (r := ?_) (x := ?_) (R := ?_) (rd := ?_) (b := ?_) (E' := ?_) rfl ?_ rfl ?_ ?_ ?_ ?_ ?_; rotate_left 8; (focus (intro φ h; (simp; (try (simp (disch := omega) only [wrap_i64_id, wrap_u64_id, dl_get]; try simp))); with_reducible exact h)); (focus (intro hw φ h; obtain ⟨hw1, hw2⟩ := hw; (try (have hq1 := Eq.trans (by assumption) hw1; simp only [decide_eq_true_eq, decide_eq_false_iff_not, Bool.and_eq_true, Bool.or_eq_true, Bool.and_eq_false_iff, Bool.or_eq_false_iff, Bool.not_eq_true', Bool.not_eq_false'] at hq1)); (try (have hq2 := Eq.trans (by assumption) hw2; simp only [decide_eq_true_eq, decide_eq_false_iff_not, Bool.and_eq_true, Bool.or_eq_true, Bool.and_eq_false_iff, Bool.or_eq_false_iff, Bool.not_eq_true', Bool.not_eq_false'] at hq2)); (simp [hw1, hw2]; (try (simp (disch := omega) only [wrap_i64_id, wrap_u64_id, dl_get]; try simp))); with_reducible exact h)); (focus (intro hw; obtain ⟨hw1, hw2⟩ := hw; (try (have hq1 := Eq.trans (by assumption) hw1; simp only [decide_eq_true_eq, decide_eq_false_iff_not, Bool.and_eq_true, Bool.or_eq_true, Bool.and_eq_false_iff, Bool.or_eq_false_iff, Bool.not_eq_true', Bool.not_eq_false'] at hq1)); (try (have hq2 := Eq.trans (by assumption) hw2; simp only [decide_eq_true_eq, decide_eq_false_iff_not, Bool.and_eq_true, Bool.or_eq_true, Bool.and_eq_false_iff, Bool.or_eq_false_iff, Bool.not_eq_true', Bool.not_eq_false'] at hq2)); first | (refine digit_ok _ _ ?_; omega))); (focus (intro φ h; (simp; (try (simp (disch := omega) only [wrap_i64_id, wrap_u64_id, dl_get]; try simp))); with_reducible exact h)); (focus (intro φ h; (simp; (try (simp (disch := omega) only [wrap_i64_id, wrap_u64_id, dl_get]; try simp))); with_reducible exact h)))
    | (refine rxg (ok := true) (x := ?_) (rd := ?_) (b := ?_) (E' := ?_) rfl ?_ ?_ (fun _ => rfl) ?_ ?_; rotate_left 4; (focus (intro φ h; (simp; (try (simp (disch := omega) only [wrap_i64_id, wrap_u64_id, dl_get]; try simp))); with_reducible exact h)); (focus (intro hw φ h; (try (have hq := Eq.trans (by assumption) hw; simp only [decide_eq_true_eq, decide_eq_false_iff_not, Bool.and_eq_true, Bool.or_eq_true, Bool.and_eq_false_iff, Bool.or_eq_false_iff, Bool.not_eq_true', Bool.not_eq_false'] at hq)); (simp [hw]; (try (simp (disch := omega) only [wrap_i64_id, wrap_u64_id, dl_get]; try simp))); with_reducible exact h)); (focus (intro φ h; (simp; (try (simp (disch := omega) only [wrap_i64_id, wrap_u64_id, dl_get]; try simp))); with_reducible exact h)))
    | (refine rxg2 (ok := true) (x := ?_) (rd := ?_) (b := ?_) (E' := ?_) (c0 := ?_) (w0 := ?_) rfl ?_ ?_ (fun _ => rfl) ?_ ?_; rotate_left 6; (focus (intro φ h; (simp; (try (simp (disch := omega) only [wrap_i64_id, wrap_u64_id, dl_get]; try simp))); with_reducible exact h)); (focus (intro hw φ h; obtain ⟨hw1, hw2⟩ := hw; (try (have hq1 := Eq.trans (by assumption) hw1; simp only [decide_eq_true_eq, decide_eq_false_iff_not, Bool.and_eq_true, Bool.or_eq_true, Bool.and_eq_false_iff, Bool.or_eq_false_iff, Bool.not_eq_true', Bool.not_eq_false'] at hq1)); (try (have hq2 := Eq.trans (by assumption) hw2; simp only [decide_eq_true_eq, decide_eq_false_iff_not, Bool.and_eq_true, Bool.or_eq_true, Bool.and_eq_false_iff, Bool.or_eq_false_iff, Bool.not_eq_true', Bool.not_eq_false'] at hq2)); (simp [hw1, hw2]; (try (simp (disch := omega) only [wrap_i64_id, wrap_u64_id, dl_get]; try simp))); with_reducible exact h)); (focus (intro φ h; (simp; (try (simp (disch := omega) only [wrap_i64_id, wrap_u64_id, dl_get]; try simp))); with_reducible exact h)))
    | (refine rxg (ok := ?_) (x := ?_) (rd := ?_) (b := ?_) (E' := ?_) rfl ?_ ?_ ?_ ?_ ?_; rotate_left 5; (focus (intro φ h; (simp; (try (simp (disch := omega) only [wrap_i64_id, wrap_u64_id, dl_get]; try simp))); with_reducible exact h)); (focus (intro hw φ h; (try (have hq := Eq.trans (by assumption) hw; simp only [decide_eq_true_eq, decide_eq_false_iff_not, Bool.and_eq_true, Bool.or_eq_true, Bool.and_eq_false_iff, Bool.or_eq_false_iff, Bool.not_eq_true', Bool.not_eq_false'] at hq)); (simp [hw]; (try (simp (disch := omega) only [wrap_i64_id, wrap_u64_id, dl_get]; try simp))); with_reducible exact h)); (focus (intro hw; (try (have hq := Eq.trans (by assumption) hw; simp only [decide_eq_true_eq, decide_eq_false_iff_not, Bool.and_eq_true, Bool.or_eq_true, Bool.and_eq_false_iff, Bool.or_eq_false_iff, Bool.not_eq_true', Bool.not_eq_false'] at hq)); (first | with_reducible rfl | (simp; done) | (simp; omega) | rfl | (simp (disch := omega); done)))); (focus (intro φ h; (simp; (try (simp (disch := omega) only [wrap_i64_id, wrap_u64_id, dl_get]; try simp))); with_reducible exact h)))
    | (refine rxg2 (ok := ?_) (x := ?_) (rd := ?_) (b := ?_) (E' := ?_) (c0 := ?_) (w0 := ?_) rfl ?_ ?_ ?_ ?_ ?_; rotate_left 7; (focus (intro φ h; (simp; (try (simp (disch := omega) only [wrap_i64_id, wrap_u64_id, dl_get]; try simp))); with_reducible exact h)); (focus (intro hw φ h; obtain ⟨hw1, hw2⟩ := hw; (try (have hq1 := Eq.trans (by assumption) hw1; simp only [decide_eq_true_eq, decide_eq_false_iff_not, Bool.and_eq_true, Bool.or_eq_true, Bool.and_eq_false_iff, Bool.or_eq_false_iff, Bool.not_eq_true', Bool.not_eq_false'] at hq1)); (try (have hq2 := Eq.trans (by assumption) hw2; simp only [decide_eq_true_eq, decide_eq_false_iff_not, Bool.and_eq_true, Bool.or_eq_true, Bool.and_eq_false_iff, Bool.or_eq_false_iff, Bool.not_eq_true', Bool.not_eq_false'] at hq2)); (simp [hw1, hw2]; (try (simp (disch := omega) only [wrap_i64_id, wrap_u64_id, dl_get]; try simp))); with_reducible exact h)); (focus (intro hw; obtain ⟨hw1, hw2⟩ := hw; (try (have hq1 := Eq.trans (by assumption) hw1; simp only [decide_eq_true_eq, decide_eq_false_iff_not, Bool.and_eq_true, Bool.or_eq_true, Bool.and_eq_false_iff, Bool.or_eq_false_iff, Bool.not_eq_true', Bool.not_eq_false'] at hq1)); (try (have hq2 := Eq.trans (by assumption) hw2; simp only [decide_eq_true_eq, decide_eq_false_iff_not, Bool.and_eq_true, Bool.or_eq_true, Bool.and_eq_false_iff, Bool.or_eq_false_iff, Bool.not_eq_true', Bool.not_eq_false'] at hq2)); (first | with_reducible rfl | (simp; done) | (simp; omega) | rfl | (simp (disch := omega); done)))); (focus (intro φ h; (simp; (try (simp (disch := omega) only [wrap_i64_id, wrap_u64_id, dl_get]; try simp))); with_reducible exact h)))
    | (refine pt_cond (b := ?_) ?_ ?_ ?_; rotate_left 1; (focus (intro φ h; (simp; (try (simp (disch := omega) only [wrap_i64_id, wrap_u64_id, dl_get]; try simp))); with_reducible exact h)))
    | (refine pt_end [] (by first | exact .inr rfl | exact .inl rfl) ?_ ?_ ?_ ?_; (focus (simp; done)); rotate_left 1; (focus (simp; done)); (focus (simp; done)))
    | (intro hb; first | cases hb | cases ((hb.symm.trans (by assumption)) : true = false) | cases ((hb.symm.trans (by assumption)) : false = true) | (simp only [decide_eq_true_eq, decide_eq_false_iff_not, Bool.and_eq_true, Bool.or_eq_true, Bool.and_eq_false_iff, Bool.or_eq_false_iff, Bool.not_eq_true', Bool.not_eq_false'] at hb) | skip)
  · rw [subL_step a b i c0 (by omega), if_pos hb] at h6
    exact loopQ_n (i + 1, 1, out ++ [dig a i + 4294967296 - (dig b i + c0)]) ⟨by simp; omega, by simp, by simp, by simp; omega, by rw [← h6]; simp⟩ (by simp; omega) (wk_ren [(10, some 12)] (by simp) (by simp) (by simp))
  · rw [subL_step a b i c0 (by omega), if_neg hb] at h6
    exact loopQ_n (i + 1, 0, out ++ [dig a i - (dig b i + c0)]) ⟨by simp; omega, by simp, by simp, by simp; omega, by rw [← h6]; simp⟩ (by simp; omega) (wk_ren [(10, some 12)] (by simp) (by simp) (by simp))
  · have he : out = subL a b 0 := by
      rw [← h6, (dig_out a i (by omega)).2.1]
      simp [subL]
    exact pt_end [(0, some 10)] (.inr rfl) (by simp) (by simp) (by simp [he]) (by simp)
end Go.Proofs.Ytikfkipalifohaa
