/- novationref1's numbers: what digits stand for. -/
import Derived.Test.YtikfkipalifohaaB5
namespace Go.Proofs.Ytikfkipalifohaa
open Go Go.Proofs.Ytikfkipalifohaa.A
set_option maxRecDepth 100000
set_option linter.unusedSimpArgs false
set_option linter.unusedVariables false

/-- The number of some digits, the lowest first. -/
def valL : List Int → Int
  | [] => 0
  | d :: ds => d + 4294967296 * valL ds
/-- No zeros on top. -/
def TR : List Int → Prop
  | [] => True
  | d :: ds => (ds = [] → d ≠ 0) ∧ TR ds
theorem DOK.tail {d : Int} {ds : List Int} (h : DOK (d :: ds)) : (0 ≤ d ∧ d < 4294967296) ∧ DOK ds := ⟨h d (by simp), fun x hx => h x (by simp [hx])⟩
theorem DOK.nil : DOK [] := by intro d hd; simp at hd
theorem valL_nonneg : ∀ {a : List Int}, DOK a → 0 ≤ valL a
  | [], _ => by simp [valL]
  | d :: ds, h => by
    have h1 := h.tail
    have h2 := valL_nonneg h1.2
    simp only [valL]
    omega
def dgN (n : Nat) : List Int := if h : n = 0 then [] else ((n % 4294967296 : Nat) : Int) :: dgN (n / 4294967296)
termination_by n
decreasing_by omega
theorem dgN_zero : dgN 0 = [] := by unfold dgN; simp
theorem dgN_pos {n : Nat} (h : n ≠ 0) : dgN n = ((n % 4294967296 : Nat) : Int) :: dgN (n / 4294967296) := by rw [dgN]; simp [h]
theorem dgN_uniq : ∀ {a : List Int}, DOK a → TR a → a = dgN (valL a).toNat
  | [], _, _ => by simp [valL, dgN_zero]
  | d :: ds, h, ht => by
    have h1 := h.tail
    have h2 := valL_nonneg h1.2
    have ih := dgN_uniq h1.2 ht.2
    by_cases hz : d + 4294967296 * valL ds = 0
    · have hv : valL ds = 0 := by omega
      rw [hv] at ih
      have hd : ds = [] := by rw [ih]; exact dgN_zero
      have := ht.1 hd
      omega
    · simp only [valL]
      rw [dgN_pos (by omega)]
      have e1 : (((d + 4294967296 * valL ds).toNat % 4294967296 : Nat) : Int) = d := by omega
      have e2 : (d + 4294967296 * valL ds).toNat / 4294967296 = (valL ds).toNat := by omega
      rw [e1, e2, ← ih]
theorem dgN_all (n : Nat) : DOK (dgN n) ∧ TR (dgN n) ∧ valL (dgN n) = n := by
  induction n using Nat.strongRecOn with
  | ind n ih =>
    by_cases h : n = 0
    · subst h
      rw [dgN_zero]
      exact ⟨DOK.nil, trivial, rfl⟩
    · obtain ⟨i1, i2, i3⟩ := ih (n / 4294967296) (by omega)
      rw [dgN_pos h]
      refine ⟨?_, ⟨?_, i2⟩, ?_⟩
      · intro d hd
        rcases List.mem_cons.1 hd with rfl | hd
        · omega
        · exact i1 d hd
      · intro he
        rw [he] at i3
        simp only [valL] at i3
        omega
      · simp only [valL, i3]
        omega
theorem valL_append : ∀ (a b : List Int), valL (a ++ b) = valL a + 4294967296 ^ a.length * valL b
  | [], b => by simp [valL]
  | x :: a, b => by
    simp only [List.cons_append, valL, valL_append a b, List.length_cons, Int.pow_succ]
    rw [Int.mul_add, ← Int.mul_assoc, Int.mul_comm 4294967296 (4294967296 ^ a.length)]
    omega
theorem TR_snoc : ∀ (l : List Int) {x : Int}, x ≠ 0 → TR (l ++ [x])
  | [], x, h => ⟨fun _ => h, trivial⟩
  | y :: l, x, h => ⟨fun e => by simp at e, TR_snoc l h⟩
theorem take_dig (a : List Int) (n : Nat) (h : n < a.length) : a.take (n + 1) = a.take n ++ [dig a n] := by
  rw [← List.take_append_getElem h]
  simp [dig, List.getD_eq_getElem?_getD, h]
theorem trimN_spec (a : List Int) : ∀ n, n ≤ a.length → TR (a.take (trimN a n)) ∧ valL (a.take (trimN a n)) = valL (a.take n)
  | 0, _ => by simp [trimN, TR]
  | n + 1, h => by
    unfold trimN
    split
    · rename_i hz
      obtain ⟨i1, i2⟩ := trimN_spec a n (by omega)
      refine ⟨i1, ?_⟩
      rw [i2, take_dig a n (by omega), valL_append, hz]
      simp [valL]
    · rename_i hz
      rw [take_dig a n (by omega)]
      exact ⟨TR_snoc _ hz, rfl⟩
theorem trimL_val (a : List Int) (h : DOK a) : trimL a = dgN (valL a).toNat := by
  obtain ⟨h1, h2⟩ := trimN_spec a a.length (Nat.le_refl _)
  have h3 := dgN_uniq (trimL_ok a h) h1
  have h4 : valL (trimL a) = valL a := by
    have := h2
    rw [List.take_length] at this
    exact this
  rw [h4] at h3
  exact h3
theorem pow_pos (n : Nat) : (0 : Int) < 4294967296 ^ n := Int.pow_pos (by omega)
theorem pow_mono {m n : Nat} (h : m ≤ n) : (4294967296 : Int) ^ m ≤ 4294967296 ^ n := by
  obtain ⟨k, rfl⟩ : ∃ k, n = m + k := ⟨n - m, by omega⟩
  have h1 := pow_pos m
  have h2 := pow_pos k
  have h3 := Int.mul_le_mul_of_nonneg_left (show (1 : Int) ≤ 4294967296 ^ k by omega) (Int.le_of_lt h1)
  rw [Int.pow_add]
  omega
theorem valL_lt : ∀ {a : List Int}, DOK a → valL a < 4294967296 ^ a.length
  | [], _ => by simp [valL]
  | d :: ds, h => by
    have h1 := h.tail
    have h2 := valL_lt h1.2
    simp only [valL, List.length_cons, Int.pow_succ]
    omega
theorem valL_ge : ∀ {a : List Int}, DOK a → TR a → a ≠ [] → (4294967296 : Int) ^ (a.length - 1) ≤ valL a
  | [], _, _, h => absurd rfl h
  | [d], h, ht, _ => by
    have h1 := h.tail
    have := ht.1 rfl
    simp [valL]
    omega
  | d :: e :: ds, h, ht, _ => by
    have h1 := h.tail
    have h2 := valL_ge h1.2 ht.2 (by simp)
    simp only [List.length_cons, Nat.add_sub_cancel, valL] at h2 ⊢
    rw [Int.pow_succ]
    omega
theorem addL_val : ∀ (a b : List Int) (c : Int), DOK a → DOK b → 0 ≤ c → valL (addL a b c) = valL a + valL b + c
  | [], [], c, _, _, h0 => by
    unfold addL
    split <;> simp [valL] <;> omega
  | x :: xs, [], c, ka, kb, h0 => by
    have h1 := ka.tail
    simp only [addL, valL, addL_val xs [] ((x + c) / 4294967296) h1.2 kb (by omega)]
    omega
  | [], y :: ys, c, ka, kb, h0 => by
    have h1 := kb.tail
    simp only [addL, valL, addL_val [] ys ((y + c) / 4294967296) ka h1.2 (by omega)]
    omega
  | x :: xs, y :: ys, c, ka, kb, h0 => by
    have h1 := ka.tail
    have h2 := kb.tail
    simp only [addL, valL, addL_val xs ys ((x + y + c) / 4294967296) h1.2 h2.2 (by omega)]
    omega
theorem valL_dig0 (b : List Int) : valL b = dig b 0 + 4294967296 * valL (b.drop 1) := by
  cases b <;> simp [valL, dig]
theorem subL_val : ∀ (a b : List Int) (c : Int), DOK a → DOK b → 0 ≤ c → c ≤ 1 → b.length ≤ a.length → ∃ e : Int, 0 ≤ e ∧ e ≤ 1 ∧ valL (subL a b c) = valL a - valL b - c + e * 4294967296 ^ a.length
  | [], b, c, _, _, h0, h1, hl => by
    have hb : b = [] := List.eq_nil_of_length_eq_zero (by simpa using hl)
    subst hb
    exact ⟨c, h0, h1, by simp [subL, valL]; omega⟩
  | x :: xs, b, c, ka, kb, h0, h1, hl => by
    have hx := ka.tail
    have kd : DOK (b.drop 1) := fun d hd => kb d (List.mem_of_mem_drop hd)
    have hb := valL_dig0 b
    have hl' : (b.drop 1).length ≤ xs.length := by simp at hl ⊢; omega
    unfold subL
    split
    · obtain ⟨e, e0, e1, he⟩ := subL_val xs (b.drop 1) 1 hx.2 kd (by omega) (by omega) hl'
      refine ⟨e, e0, e1, ?_⟩
      simp only [valL, he, List.length_cons, Int.pow_succ, hb, ← Int.mul_assoc]
      omega
    · obtain ⟨e, e0, e1, he⟩ := subL_val xs (b.drop 1) 0 hx.2 kd (by omega) (by omega) hl'
      refine ⟨e, e0, e1, ?_⟩
      simp only [valL, he, List.length_cons, Int.pow_succ, hb, ← Int.mul_assoc]
      omega
theorem subL_less (a b : List Int) (ka : DOK a) (kb : DOK b) (hl : b.length ≤ a.length) (h : valL b ≤ valL a) : valL (subL a b 0) = valL a - valL b := by
  obtain ⟨e, e0, e1, he⟩ := subL_val a b 0 ka kb (by omega) (by omega) hl
  have h1 := valL_lt (subL_ok a b 0 ka kb (by omega) (by omega))
  rw [subL_len] at h1
  have : e = 0 ∨ e = 1 := by omega
  rcases this with rfl | rfl <;> omega
theorem cmpG_val (a b : List Int) (ka : DOK a) (kb : DOK b) : ∀ n, n ≤ a.length → n ≤ b.length → cmpG a b n = (valL (a.take n) - valL (b.take n)).sign
  | 0, _, _ => by simp [cmpG, valL]
  | n + 1, h1, h2 => by
    have ih := cmpG_val a b ka kb n (by omega) (by omega)
    have ta : DOK (a.take n) := fun d hd => ka d (List.mem_of_mem_take hd)
    have tb : DOK (b.take n) := fun d hd => kb d (List.mem_of_mem_take hd)
    have a0 := valL_nonneg ta
    have b0 := valL_nonneg tb
    have a1 := valL_lt ta
    have b1 := valL_lt tb
    rw [List.length_take, Nat.min_eq_left (by omega)] at a1 b1
    rw [cmpG, take_dig a n (by omega), take_dig b n (by omega), valL_append, valL_append, List.length_take, List.length_take, Nat.min_eq_left (by omega), Nat.min_eq_left (by omega)]
    simp only [valL, Int.mul_zero, Int.add_zero]
    split
    · rename_i h
      have := Int.mul_le_mul_of_nonneg_left (show dig a n + 1 ≤ dig b n by omega) (Int.le_of_lt (pow_pos n))
      rw [Int.mul_add, Int.mul_one] at this
      rw [Int.sign_eq_neg_one_of_neg (by omega)]
    · split
      · rename_i h
        have := Int.mul_le_mul_of_nonneg_left (show dig b n + 1 ≤ dig a n by omega) (Int.le_of_lt (pow_pos n))
        rw [Int.mul_add, Int.mul_one] at this
        rw [Int.sign_eq_one_of_pos (by omega)]
      · have : dig a n = dig b n := by omega
        rw [ih, this]
        congr 1
        omega
theorem cmpL_val (a b : List Int) (ka : DOK a) (kb : DOK b) (ta : TR a) (tb : TR b) : cmpL a b = (valL a - valL b).sign := by
  have a0 := valL_nonneg ka
  have b0 := valL_nonneg kb
  have key : ∀ {a b : List Int}, DOK a → DOK b → TR b → a.length < b.length → valL a < valL b := by
    intro a b ka kb tb hl
    have h1 := valL_lt ka
    have h2 := valL_ge kb tb (by intro h; subst h; simp at hl)
    have h3 : (4294967296 : Int) ^ a.length ≤ 4294967296 ^ (b.length - 1) := pow_mono (by omega)
    omega
  unfold cmpL
  split
  · rename_i h
    have := cmpG_val a b ka kb a.length (Nat.le_refl _) (by omega)
    rw [List.take_length, h, List.take_length] at this
    rw [h, this]
  · split
    · rename_i h
      have := key ka kb tb h
      rw [Int.sign_eq_neg_one_of_neg (by omega)]
    · have := key kb ka ta (by omega)
      rw [Int.sign_eq_one_of_pos (by omega)]
theorem dgN_len (k : Nat) : ∀ n : Nat, n < 4294967296 ^ k → (dgN n).length ≤ k := by
  induction k with
  | zero => intro n h; simp at h; subst h; simp [dgN_zero]
  | succ k ih =>
    intro n h
    by_cases hn : n = 0
    · subst hn; simp [dgN_zero]
    · rw [dgN_pos hn]
      have := ih (n / 4294967296) (by rw [Nat.pow_succ] at h; omega)
      simpa using this

/-! ### Whole numbers as the program holds them -/
def ng (z : Int) : Bool := decide (z < 0)
def mg (z : Int) : List (List PV) := dl (dgN z.natAbs)
@[simp] def bg (z : Int) : List SV := [.d (.bool (ng z)), .d (.list (mg z))]
theorem bg_eq (z : Int) : bg z = big (ng z) (dgN z.natAbs) := rfl
/-- Of 256 bits at most. -/
def Sm (z : Int) : Prop := -115792089237316195423570985008687907853269984665640564039457584007913129639936 < z ∧ z < 115792089237316195423570985008687907853269984665640564039457584007913129639936
theorem Sm.len {z : Int} (h : Sm z) : (dgN z.natAbs).length ≤ 8 := dgN_len 8 _ (by unfold Sm at h; omega)
theorem mkNeg_eq {z : Int} {d : List Int} (h : DOK d) (hv : valL d = z.natAbs) (b : Bool) (hb : z ≠ 0 → b = ng z) : mkNeg b d = ng z ∧ trimL d = dgN z.natAbs := by
  have h1 := trimL_val d h
  rw [hv] at h1
  have h1' : trimL d = dgN z.natAbs := by rw [h1]; rfl
  refine ⟨?_, h1'⟩
  unfold mkNeg
  rw [h1']
  by_cases hz : z = 0
  · subst hz
    simp [dgN_zero, ng]
  · rw [hb hz, dgN_pos (by omega)]
    simp
theorem len_of_val {a b : List Int} (ka : DOK a) (kb : DOK b) (tb : TR b) (h : valL b ≤ valL a) : b.length ≤ a.length := by
  by_cases hl : a.length < b.length
  · exfalso
    have h1 := valL_lt ka
    have h2 := valL_ge kb tb (by intro h; subst h; simp at hl)
    have h3 : (4294967296 : Int) ^ a.length ≤ 4294967296 ^ (b.length - 1) := pow_mono (by omega)
    omega
  · omega
theorem ng_t {z : Int} : ng z = true ↔ z < 0 := by simp [ng]
theorem ng_f {z : Int} : ng z = false ↔ 0 ≤ z := by simp [ng]
theorem plus_val (x y : Int) : plusNeg (ng x) (dgN x.natAbs) (ng y) (dgN y.natAbs) = ng (x + y) ∧ plusDigs (ng x) (dgN x.natAbs) (ng y) (dgN y.natAbs) = dgN (x + y).natAbs := by
  obtain ⟨ax, tx, vx⟩ := dgN_all x.natAbs
  obtain ⟨ay, ty, vy⟩ := dgN_all y.natAbs
  unfold plusNeg plusDigs
  by_cases hn : ng x = ng y
  · rw [if_pos hn, if_pos hn]
    have hv := addL_val (dgN x.natAbs) (dgN y.natAbs) 0 ax ay (by omega)
    have hn' : x < 0 ↔ y < 0 := by simpa [ng] using hn
    refine mkNeg_eq (addL_ok _ _ _ ax ay (by omega) (by omega)) (by rw [hv, vx, vy]; omega) _ (fun hz => ?_)
    unfold ng
    apply decide_eq_decide.2
    omega
  · rw [if_neg hn, if_neg hn]
    have hn' : ¬ (x < 0 ↔ y < 0) := by simpa [ng] using hn
    have hc := cmpL_val _ _ ax ay tx ty
    rw [vx, vy] at hc
    rw [hc]
    by_cases hk : (0 : Int) ≤ ((x.natAbs : Int) - (y.natAbs : Int)).sign
    · rw [if_pos hk, if_pos hk]
      rw [Int.sign_nonneg_iff] at hk
      have hle : valL (dgN y.natAbs) ≤ valL (dgN x.natAbs) := by rw [vx, vy]; omega
      have hv := subL_less _ _ ax ay (len_of_val ax ay ty hle) hle
      refine mkNeg_eq (subL_ok _ _ _ ax ay (by omega) (by omega)) (by rw [hv, vx, vy]; omega) _ (fun hz => ?_)
      unfold ng
      apply decide_eq_decide.2
      omega
    · rw [if_neg hk, if_neg hk]
      rw [Int.sign_nonneg_iff] at hk
      have hle : valL (dgN x.natAbs) ≤ valL (dgN y.natAbs) := by rw [vx, vy]; omega
      have hv := subL_less _ _ ay ax (len_of_val ay ax tx hle) hle
      refine mkNeg_eq (subL_ok _ _ _ ay ax (by omega) (by omega)) (by rw [hv, vx, vy]; omega) _ (fun hz => ?_)
      unfold ng
      apply decide_eq_decide.2
      omega
theorem trimL_dgN (n : Nat) : trimL (dgN n) = dgN n := by
  obtain ⟨h1, _, h3⟩ := dgN_all n
  rw [trimL_val _ h1, h3]
  rfl
theorem turned_val (x : Int) : mkNeg (!ng x) (dgN x.natAbs) = ng (-x) ∧ trimL (dgN x.natAbs) = dgN (-x).natAbs := by
  obtain ⟨ax, tx, vx⟩ := dgN_all x.natAbs
  refine mkNeg_eq ax (by rw [vx]; omega) _ (fun hz => ?_)
  unfold ng
  rw [← decide_not]
  apply decide_eq_decide.2
  omega
theorem sized_val (x : Int) : mkNeg false (dgN x.natAbs) = ng (x.natAbs : Int) ∧ trimL (dgN x.natAbs) = dgN (x.natAbs : Int).natAbs := by
  obtain ⟨ax, tx, vx⟩ := dgN_all x.natAbs
  refine mkNeg_eq ax (by rw [vx]; omega) _ (fun hz => ?_)
  unfold ng
  symm
  apply decide_eq_false
  omega
theorem sign_val (x : Int) : signB (ng x) (dgN x.natAbs) = x.sign := by
  unfold signB
  by_cases hx : x = 0
  · subst hx; simp [dgN_zero]
  · have h1 : ¬ (dgN x.natAbs).length = 0 := by rw [dgN_pos (by omega)]; simp
    rw [if_neg h1]
    by_cases hn : x < 0
    · rw [if_pos (ng_t.2 hn), Int.sign_eq_neg_one_of_neg hn]
    · rw [if_neg (by rw [ng_f.2 (by omega)]; simp), Int.sign_eq_one_of_pos (by omega)]
theorem digs_val (u : Int) (h0 : 0 ≤ u) (h1 : u < 18446744073709551616) : digs u = dgN u.toNat := by
  unfold digs
  rw [mask32 u h0 h1, Int.fdiv_eq_ediv_of_nonneg _ (by omega), trimL_val]
  · congr 1
    simp [valL]
    omega
  · intro d hd
    simp at hd
    rcases hd with rfl | rfl <;> omega
theorem absU_val (x : Int) (h0 : -9223372036854775808 ≤ x) (h1 : x < 9223372036854775808) : absU x = (x.natAbs : Int) := by
  unfold absU
  split <;> simp only [IntKind.wrap_u64] <;> omega
theorem whole_val (x : Int) (h0 : -9223372036854775808 ≤ x) (h1 : x < 9223372036854775808) : wNeg x = ng x ∧ wDigs x = dgN x.natAbs := by
  unfold wNeg wDigs
  rw [absU_val x h0 h1, digs_val _ (by omega) (by omega)]
  obtain ⟨ax, tx, vx⟩ := dgN_all x.natAbs
  refine mkNeg_eq ax (by rw [vx]) _ (fun hz => rfl)
/-- The sizes of int64, uint64. -/
def I64 (x : Int) : Prop := -9223372036854775808 ≤ x ∧ x < 9223372036854775808

/-! ### The functions, by numbers -/
theorem wholeV (x : Int) (h : I64 x) : FnOK Go.Proofs.Try.prog 9 [.d (.int .i64 x)] (.agg (bg x)) [] := by
  have := whole_ok x
  rw [(whole_val x h.1 h.2).1, (whole_val x h.1 h.2).2] at this
  exact this
theorem lenOK {z : Int} (h : Sm z) : (dgN z.natAbs).length < 1000000000 := Nat.lt_of_le_of_lt h.len (by omega)
theorem lenOK' {z : Int} (h : Sm z) : (dgN z.natAbs).length < 9223372036854775808 := Nat.lt_of_le_of_lt h.len (by omega)
theorem plusV (x y : Int) (hx : Sm x) (hy : Sm y) : FnOK Go.Proofs.Try.prog 22 [.agg (bg x), .agg (bg y)] (.agg (bg (x + y))) [] := by
  have := plus_ok (ng x) (ng y) _ _ (dgN_all x.natAbs).1 (dgN_all y.natAbs).1 (lenOK hx) (lenOK hy)
  rw [(plus_val x y).1, (plus_val x y).2] at this
  exact this
theorem turnedV (x : Int) (hx : Sm x) : FnOK Go.Proofs.Try.prog 62 [.agg (bg x)] (.agg (bg (-x))) [] := by
  have := turned_ok (ng x) (dgN x.natAbs) (lenOK' hx)
  rw [(turned_val x).1, (turned_val x).2] at this
  exact this
theorem signV (x : Int) (hx : Sm x) : FnOK Go.Proofs.Try.prog 18 [.agg (bg x)] (.d (.int .i64 x.sign)) [] := by
  have := signB_ok (ng x) (dgN x.natAbs) (lenOK' hx)
  rw [sign_val x] at this
  exact this
theorem lessV (x y : Int) (hx : Sm x) (hy : Sm y) : FnOK Go.Proofs.Try.prog 36 [.agg (bg x), .agg (bg y)] (.agg (bg (x - y))) [] := by
  have := less_ok (ng x) (ng y) _ _ (dgN_all x.natAbs).1 (dgN_all y.natAbs).1 (lenOK hx) (lenOK hy)
  unfold lessNeg lessDigs at this
  rw [(turned_val y).1, (turned_val y).2, (plus_val x (-y)).1, (plus_val x (-y)).2, ← Int.sub_eq_add_neg] at this
  exact this
theorem cmpV (x y : Int) (hx : Sm x) (hy : Sm y) : FnOK Go.Proofs.Try.prog 19 [.agg (bg x), .agg (bg y)] (.d (.int .i64 (x - y).sign)) [] := by
  have := cmpBig_ok (ng x) (ng y) _ _ (dgN_all x.natAbs).1 (dgN_all y.natAbs).1 (lenOK hx) (lenOK hy)
  unfold cmpBig lessNeg lessDigs at this
  rw [(turned_val y).1, (turned_val y).2, (plus_val x (-y)).1, (plus_val x (-y)).2, ← Int.sub_eq_add_neg, sign_val] at this
  exact this
end Go.Proofs.Ytikfkipalifohaa
