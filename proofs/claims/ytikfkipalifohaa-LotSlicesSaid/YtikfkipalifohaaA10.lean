/- The layer, part 10: regions that draw their order. -/
import Derived.Test.YtikfkipalifohaaA9
namespace Go.Proofs.Ytikfkipalifohaa.A
open Go Go.RowKit

/-! ### Which operations come before an operation, in every order -/
def forceN {α : Type} (n : Nat) (f : Nat → α) : α := Nat.rec (f 0) (fun m _ => f (m + 1)) n
theorem forceN_eq {α : Type} (n : Nat) (f : Nat → α) : forceN n f = f n := by cases n <;> rfl
def maskE (ms : List Nat) : List Edge → Nat → Nat
  | [], s => s
  | e :: es, s => if Region.binds .any e then forceN (s ||| 2 ^ e.on ||| ms.getD e.on 0) (maskE ms es) else maskE ms es s
def masks : List Oper → List Nat → List Nat
  | [], ms => ms
  | o :: os, ms => forceN (maskE ms o.after.toList 0) fun m => masks os (ms ++ [m])
/-- Edges lead back. -/
def backB : Nat → List Oper → Bool
  | _, [] => true
  | k, o :: os => o.after.toList.all (fun e => !Region.binds .any e || decide (e.on < k)) && backB (k + 1) os
def apartFrom (ops : Array Oper) (o : Oper) (m : Nat) : Nat → List Oper → Bool
  | _, [] => true
  | i, o' :: os => (m.testBit i || (Oper.apart ops o' o && Oper.apart ops o o')) && apartFrom ops o m (i + 1) os
def pairsB (ops : Array Oper) : List Oper → List Nat → List Oper → Bool
  | pre, m :: ms, o :: os => apartFrom ops o m 0 pre && pairsB ops (pre ++ [o]) ms os
  | _, _, [] => true
  | _, [], _ :: _ => false
def drawB (ops : Array Oper) : Bool := backB 0 ops.toList && pairsB ops [] (masks ops.toList []) ops.toList
/-- What an operation writes, and reads. -/
abbrev Skel := List Nat × List Nat
def Ent.skel (e : Ent) : Skel := (e.wr.map (·.1), e.rd)
def meets (xs ys : List Nat) : Bool := xs.any ys.contains
def keysFrom (s : Skel) (m : Nat) : Nat → List Skel → Bool
  | _, [] => true
  | i, s' :: ss => (m.testBit i || (!meets s.1 s'.1 && !meets s.1 s'.2 && !meets s'.1 s.2)) && keysFrom s m (i + 1) ss
def keysB : List Skel → List Nat → List Skel → Bool
  | pre, m :: ms, s :: ss => keysFrom s m 0 pre && keysB (pre ++ [s]) ms ss
  | _, _, [] => true
  | _, [], _ :: _ => false
def quietB (ss : List Skel) : Bool := ss.all fun s => s.1.isEmpty
def drawKeys (ops : Array Oper) (ss : List Skel) : Bool := quietB ss || keysB [] (masks ops.toList []) ss

section
variable {ops : Array Oper}
theorem masks_len : ∀ (os : List Oper) (ms : List Nat), (masks os ms).length = ms.length + os.length
  | [], ms => by simp [masks]
  | o :: os, ms => by rw [masks, forceN_eq, masks_len os]; simp; omega
theorem masks_pre : ∀ (os : List Oper) (ms : List Nat) (i : Nat), i < ms.length → (masks os ms)[i]? = ms[i]?
  | [], ms, i, _ => by simp [masks]
  | o :: os, ms, i, h => by rw [masks, forceN_eq, masks_pre os _ i (by simp; omega), List.getElem?_append_left h]
/-- ls is closed under the edges. -/
def Closed (ops : Array Oper) (ls : Nat → Bool) : Prop := ∀ (i : Nat) (o : Oper), ops[i]? = some o → ls i = true → ∀ e ∈ o.after.toList, Region.binds .any e = true → ls e.on = true
theorem maskE_spec {ls : Nat → Bool} {ms : List Nat} (hms : ∀ (i m : Nat), ms[i]? = some m → ls i = true → ∀ j, m.testBit j = true → ls j = true) :
    ∀ (es : List Edge) (s : Nat), (∀ e ∈ es, Region.binds .any e = true → ls e.on = true) → (∀ j, s.testBit j = true → ls j = true) → ∀ j, (maskE ms es s).testBit j = true → ls j = true
  | [], s, _, hs, j, hj => hs j hj
  | e :: es, s, he, hs, j, hj => by
    rw [maskE] at hj
    split at hj
    · rename_i hb
      rw [forceN_eq] at hj
      refine maskE_spec hms es _ (fun e' h' => he e' (List.mem_cons_of_mem _ h')) ?_ j hj
      intro q hq
      have hon := he e List.mem_cons_self hb
      simp only [Nat.testBit_or, Bool.or_eq_true] at hq
      rcases hq with (hq | hq) | hq
      · exact hs q hq
      · rw [Nat.testBit_two_pow] at hq
        simp at hq
        rw [← hq]; exact hon
      · cases hm : ms[e.on]? with
        | none => simp [List.getD_eq_getElem?_getD, hm] at hq
        | some m => exact hms _ m hm hon q (by simpa [List.getD_eq_getElem?_getD, hm] using hq)
    · exact maskE_spec hms es s (fun e' h' => he e' (List.mem_cons_of_mem _ h')) hs j hj
theorem masks_closed {ls : Nat → Bool} : ∀ (os : List Oper) (ms : List Nat), (∀ (i : Nat) (o : Oper), os[i]? = some o → ls (ms.length + i) = true → ∀ e ∈ o.after.toList, Region.binds .any e = true → ls e.on = true) →
    (∀ (i m : Nat), ms[i]? = some m → ls i = true → ∀ j, m.testBit j = true → ls j = true) →
    ∀ (i m : Nat), (masks os ms)[i]? = some m → ls i = true → ∀ j, m.testBit j = true → ls j = true
  | [], ms, _, h2, i, m, hi => h2 i m hi
  | o :: os, ms, h1, h2, i, m, hi => by
    rw [masks, forceN_eq] at hi
    refine masks_closed os _ ?_ ?_ i m hi
    · intro i' o' hi' hl
      refine h1 (i' + 1) o' (by simpa using hi') ?_
      rw [← hl]; congr 1; simp; omega
    · intro i' m' hi' hl
      by_cases hlt : i' < ms.length
      · rw [List.getElem?_append_left hlt] at hi'
        exact h2 i' m' hi' hl
      · rw [List.getElem?_append_right (by omega)] at hi'
        have e0 : i' - ms.length = 0 := by
          by_cases h0 : i' - ms.length = 0
          · exact h0
          · rw [List.getElem?_eq_none (by simp; omega)] at hi'; cases hi'
        rw [e0] at hi'
        simp at hi'
        subst hi'
        have ei : i' = ms.length := by omega
        subst ei
        exact maskE_spec h2 _ _ (h1 0 o rfl hl) (by simp)
def mk (ops : Array Oper) (i : Nat) : Nat := (masks ops.toList []).getD i 0
theorem mk_closed {ls : Nat → Bool} (h : Closed ops ls) (i j : Nat) (hl : ls i = true) (hj : (mk ops i).testBit j = true) : ls j = true := by
  unfold mk at hj
  cases hm : (masks ops.toList [])[i]? with
  | none => simp [List.getD_eq_getElem?_getD, hm] at hj
  | some m =>
    refine masks_closed ops.toList [] ?_ (by simp) i m hm hl j (by simpa [List.getD_eq_getElem?_getD, hm] using hj)
    intro i' o' hi' hl'
    simp at hl'
    exact h i' o' (by simpa using hi') hl'
theorem apartFrom_spec {o : Oper} {m : Nat} : ∀ {os : List Oper} {k : Nat}, apartFrom ops o m k os = true → ∀ (i : Nat) (o' : Oper), os[i]? = some o' → m.testBit (k + i) = true ∨ (Oper.apart ops o' o = true ∧ Oper.apart ops o o' = true)
  | [], _, _, i, o', hi => by simp at hi
  | o1 :: os, k, h, 0, o', hi => by
    simp at hi
    subst hi
    simp only [apartFrom, Bool.and_eq_true, Bool.or_eq_true] at h
    simpa using h.1
  | o1 :: os, k, h, i + 1, o', hi => by
    simp only [apartFrom, Bool.and_eq_true] at h
    have := apartFrom_spec h.2 i o' (by simpa using hi)
    rwa [Nat.add_assoc, Nat.add_comm 1 i] at this
theorem pairsB_spec : ∀ {pre : List Oper} {ms : List Nat} {os : List Oper}, pairsB ops pre ms os = true → ∀ (j : Nat) (o : Oper), os[j]? = some o → ∀ (i : Nat) (o' : Oper), i < pre.length + j → (pre ++ os)[i]? = some o' →
    (ms.getD j 0).testBit i = true ∨ (Oper.apart ops o' o = true ∧ Oper.apart ops o o' = true)
  | pre, m :: ms, o1 :: os, h, 0, o, hj, i, o', hi, ho' => by
    simp only [pairsB, Bool.and_eq_true] at h
    simp at hj
    subst hj
    rw [List.getElem?_append_left (by simpa using hi)] at ho'
    have := apartFrom_spec h.1 i o' ho'
    simpa using this
  | pre, m :: ms, o1 :: os, h, j + 1, o, hj, i, o', hi, ho' => by
    simp only [pairsB, Bool.and_eq_true] at h
    have := pairsB_spec h.2 j o (by simpa using hj) i o' (by simp; omega) (by simpa using ho')
    simpa using this
  | _, _, [], _, j, o, hj, _, _, _, _ => by simp at hj
  | _, [], _ :: _, h, _, _, _, _, _, _, _ => by simp [pairsB] at h
theorem keysFrom_spec {s : Skel} {m : Nat} : ∀ {ss : List Skel} {k : Nat}, keysFrom s m k ss = true → ∀ (i : Nat) (s' : Skel), ss[i]? = some s' → m.testBit (k + i) = true ∨ (meets s.1 s'.1 = false ∧ meets s.1 s'.2 = false ∧ meets s'.1 s.2 = false)
  | [], _, _, i, o', hi => by simp at hi
  | o1 :: os, k, h, 0, o', hi => by
    simp at hi
    subst hi
    simp only [keysFrom, Bool.and_eq_true, Bool.or_eq_true, Bool.not_eq_true'] at h
    simpa [and_assoc] using h.1
  | o1 :: os, k, h, i + 1, o', hi => by
    simp only [keysFrom, Bool.and_eq_true] at h
    have := keysFrom_spec h.2 i o' (by simpa using hi)
    rwa [Nat.add_assoc, Nat.add_comm 1 i] at this
theorem keysB_spec : ∀ {pre : List Skel} {ms : List Nat} {os : List Skel}, keysB pre ms os = true → ∀ (j : Nat) (o : Skel), os[j]? = some o → ∀ (i : Nat) (o' : Skel), i < pre.length + j → (pre ++ os)[i]? = some o' →
    (ms.getD j 0).testBit i = true ∨ (meets o.1 o'.1 = false ∧ meets o.1 o'.2 = false ∧ meets o'.1 o.2 = false)
  | pre, m :: ms, o1 :: os, h, 0, o, hj, i, o', hi, ho' => by
    simp only [keysB, Bool.and_eq_true] at h
    simp at hj
    subst hj
    rw [List.getElem?_append_left (by simpa using hi)] at ho'
    have := keysFrom_spec h.1 i o' ho'
    simpa using this
  | pre, m :: ms, o1 :: os, h, j + 1, o, hj, i, o', hi, ho' => by
    simp only [keysB, Bool.and_eq_true] at h
    have := keysB_spec h.2 j o (by simpa using hj) i o' (by simp; omega) (by simpa using ho')
    simpa using this
  | _, _, [], _, j, o, hj, _, _, _, _ => by simp at hj
  | _, [], _ :: _, h, _, _, _, _, _, _, _ => by simp [keysB] at h
/-- Of two operations the first comes before the second in every order, or they do not touch each other. -/
theorem draw_pair (h : drawB ops = true) {i j : Nat} {oi oj : Oper} (hi : ops[i]? = some oi) (hj : ops[j]? = some oj) (hij : i < j) : (mk ops j).testBit i = true ∨ (Oper.apart ops oi oj = true ∧ Oper.apart ops oj oi = true) := by
  simp only [drawB, Bool.and_eq_true] at h
  have := pairsB_spec h.2 j oj (by simpa using hj) i oi (by simpa using hij) (by simpa using hi)
  exact this
theorem back_spec : ∀ {k : Nat} {os : List Oper}, backB k os = true → ∀ (i : Nat) (o : Oper), os[i]? = some o → ∀ e ∈ o.after.toList, Region.binds .any e = true → e.on < k + i
  | _, [], _, i, o, hi, _, _, _ => by simp at hi
  | k, o1 :: os, h, 0, o, hi, e, he, hb => by
    simp at hi
    subst hi
    simp only [backB, Bool.and_eq_true, List.all_eq_true, Bool.or_eq_true, decide_eq_true_eq] at h
    rcases h.1 e he with h1 | h1
    · rw [hb] at h1; cases h1
    · simpa using h1
  | k, o1 :: os, h, i + 1, o, hi, e, he, hb => by
    simp only [backB, Bool.and_eq_true] at h
    have := back_spec h.2 i o (by simpa using hi) e he hb
    omega
end

/-! ### The state behind the operations that are listed -/
section
variable {ops : Array Oper} {es : List Ent} {E : Nat → SV} {σ : Nat → Option Blk} {ls ls' : Nat → Bool}
theorem upd_other {E : Nat → SV} {d : Option Nat} {x : SV} {t : Nat} (h : d ≠ some t) : upd E d x t = E t := by simp [upd, h]
theorem upd_self {E : Nat → SV} {d : Option Nat} {x : SV} {t : Nat} (h : d = some t) : upd E d x t = x := by simp [upd, h]
theorem apE_congr (t : Nat) : ∀ (k : Nat), (∀ (j : Nat) (o : Oper), j < k → ops[j]? = some o → o.dst = some t → ls j = ls' j) → apE ops es ls E k t = apE ops es ls' E k t
  | 0, _ => rfl
  | k + 1, h => by
    have ih := apE_congr t k fun j o hj ho hd => h j o (by omega) ho hd
    simp only [apE]
    cases ho : ops[k]? with
    | none => exact ih
    | some o =>
      cases he : es[k]? with
      | none => exact ih
      | some e =>
        simp only
        by_cases hd : o.dst = some t
        · rw [h k o (by omega) ho hd]
          split
          · rw [upd_self hd, upd_self hd]
          · exact ih
        · split <;> split <;> (try simp only [upd_other hd]) <;> exact ih
theorem apE_tail (t : Nat) (k : Nat) : ∀ (d : Nat), (∀ (j : Nat) (o : Oper), k ≤ j → j < k + d → ops[j]? = some o → o.dst = some t → ls j = false) → apE ops es ls E (k + d) t = apE ops es ls E k t
  | 0, _ => rfl
  | d + 1, h => by
    have ih := apE_tail t k d fun j o h1 h2 ho hd => h j o h1 (by omega) ho hd
    rw [← Nat.add_assoc]
    simp only [apE]
    cases ho : ops[k + d]? with
    | none => exact ih
    | some o =>
      cases he : es[k + d]? with
      | none => exact ih
      | some e =>
        simp only
        by_cases hd : o.dst = some t
        · rw [h (k + d) o (by omega) (by omega) ho hd]
          simpa using ih
        · split
          · rw [upd_other hd]; exact ih
          · exact ih
theorem updB_other {wr : Sto} {q : Nat} : ∀ {σ : Nat → Option Blk}, q ∉ wr.map (·.1) → updB σ wr q = σ q := by
  induction wr with
  | nil => intro σ _; rfl
  | cons p wr ih =>
    obtain ⟨i, b⟩ := p
    intro σ h
    simp only [List.map_cons, List.mem_cons, not_or] at h
    simp only [updB]
    rw [if_neg (fun e => h.1 e.symm)]
    exact ih h.2
theorem updB_self {wr : Sto} {q : Nat} : ∀ {σ σ' : Nat → Option Blk}, q ∈ wr.map (·.1) → updB σ wr q = updB σ' wr q := by
  induction wr with
  | nil => intro σ σ' h; simp at h
  | cons p wr ih =>
    obtain ⟨i, b⟩ := p
    intro σ σ' h
    simp only [updB]
    by_cases hi : i = q
    · rw [if_pos hi, if_pos hi]
    · rw [if_neg hi, if_neg hi]
      simp only [List.map_cons, List.mem_cons] at h
      exact ih (h.resolve_left fun e => hi e.symm)
theorem apB_congr (q : Nat) : ∀ (k : Nat), (∀ (j : Nat) (e : Ent), j < k → es[j]? = some e → q ∈ e.wr.map (·.1) → ls j = ls' j) → apB es ls σ k q = apB es ls' σ k q
  | 0, _ => rfl
  | k + 1, h => by
    have ih := apB_congr q k fun j o hj ho hd => h j o (by omega) ho hd
    simp only [apB]
    cases he : es[k]? with
    | none => exact ih
    | some e =>
      simp only
      by_cases hd : q ∈ e.wr.map (·.1)
      · rw [h k e (by omega) he hd]
        split
        · exact updB_self hd
        · exact ih
      · split <;> split <;> (try simp only [updB_other hd]) <;> exact ih
theorem apB_tail (q : Nat) (k : Nat) : ∀ (d : Nat), (∀ (j : Nat) (e : Ent), k ≤ j → j < k + d → es[j]? = some e → q ∈ e.wr.map (·.1) → ls j = false) → apB es ls σ (k + d) q = apB es ls σ k q
  | 0, _ => rfl
  | d + 1, h => by
    have ih := apB_tail q k d fun j o h1 h2 ho hd => h j o h1 (by omega) ho hd
    rw [← Nat.add_assoc]
    simp only [apB]
    cases he : es[k + d]? with
    | none => exact ih
    | some e =>
      simp only
      by_cases hd : q ∈ e.wr.map (·.1)
      · rw [h (k + d) e (by omega) (by omega) he hd]
        simpa using ih
      · split
        · rw [updB_other hd]; exact ih
        · exact ih
theorem meets_spec {xs ys : List Nat} (h : meets xs ys = false) {q : Nat} (h1 : q ∈ xs) (h2 : q ∈ ys) : False := by
  simp only [meets, List.any_eq_false] at h
  exact h q h1 (by simpa using h2)
theorem meets_nil (ys : List Nat) : meets [] ys = false := rfl
theorem meets_nilr (xs : List Nat) : meets xs [] = false := by simp [meets]
end

section
variable {P : Program} {ops : Array Oper} {L : Nat → Prop} {E : Nat → SV} {σ : Nat → Option Blk} {es : List Ent}
def set1 (ls : Nat → Bool) (i : Nat) : Nat → Bool := fun k => decide (k = i) || ls k

theorem keys_pair {ss : List Skel} (hk : drawKeys ops ss = true) {i j : Nat} {si sj : Skel} (hi : ss[i]? = some si) (hj : ss[j]? = some sj) (hij : i < j) :
    (mk ops j).testBit i = true ∨ (meets sj.1 si.1 = false ∧ meets sj.1 si.2 = false ∧ meets si.1 sj.2 = false) := by
  simp only [drawKeys, Bool.or_eq_true] at hk
  rcases hk with hk | hk
  · simp only [quietB, List.all_eq_true, List.isEmpty_iff] at hk
    have h1 := hk si (List.mem_of_getElem? hi)
    have h2 := hk sj (List.mem_of_getElem? hj)
    rw [h1, h2]
    exact .inr ⟨meets_nil _, meets_nil _, meets_nil _⟩
  · exact keysB_spec hk j sj hj i si (by simpa using hij) (by simpa using hi)

section
variable {ls : Nat → Bool} {i : Nat} {oi : Oper} {ei : Ent}
theorem ready_E (hd : drawB ops = true) (hc : Closed ops ls) (hi : ops[i]? = some oi) (hl : ls i = false) (hr : ∀ e ∈ oi.after.toList, Region.binds .any e = true → ls e.on = true) {t : Nat} (ht : t ∈ oi.looksAt ops) :
    apE ops es ls E ops.size t = apE ops es (fun _ => true) E i t := by
  have hlt : i < ops.size := (Array.getElem?_eq_some_iff.1 hi).1
  have hc' : Closed ops (set1 ls i) := by
    intro k o ho hk e he hb
    simp only [set1, Bool.or_eq_true, decide_eq_true_eq] at hk ⊢
    rcases hk with rfl | hk
    · rw [hi] at ho; injection ho with ho; subst ho
      exact .inr (hr e he hb)
    · exact .inr (hc k o ho hk e he hb)
  have key : ∀ (j : Nat) (o : Oper), ops[j]? = some o → o.dst = some t → (j < i → ls j = true) ∧ (i ≤ j → ls j = false) := by
    intro j o ho hdst
    constructor
    · intro hji
      rcases draw_pair hd ho hi hji with h | ⟨h, _⟩
      · have := mk_closed hc' i j (by simp [set1]) h
        simp only [set1, Bool.or_eq_true, decide_eq_true_eq] at this
        exact this.resolve_left (by omega)
      · exact absurd ht ((Oper.apart_spec h).1 t hdst)
    · intro hij
      by_cases e : j = i
      · subst e; exact hl
      · rcases draw_pair hd hi ho (by omega) with h | ⟨_, h⟩
        · cases hls : ls j with
          | false => rfl
          | true => rw [mk_closed hc j i hls h] at hl; cases hl
        · exact absurd ht ((Oper.apart_spec h).1 t hdst)
  have h1 := apE_tail (ops := ops) (es := es) (ls := ls) (E := E) t i (ops.size - i) fun j o h1 h2 ho hdst => (key j o ho hdst).2 h1
  rw [show i + (ops.size - i) = ops.size by omega] at h1
  rw [h1]
  exact apE_congr t i fun j o hj ho hdst => (key j o ho hdst).1 hj

theorem ready_B (hk : drawKeys ops (es.map Ent.skel) = true) (hc : Closed ops ls) (hi : ops[i]? = some oi) (he : es[i]? = some ei) (hl : ls i = false) (hr : ∀ e ∈ oi.after.toList, Region.binds .any e = true → ls e.on = true) {q : Nat} (hq : q ∈ ei.rd) :
    apB es ls σ ops.size q = apB es (fun _ => true) σ i q := by
  have hlt : i < ops.size := (Array.getElem?_eq_some_iff.1 hi).1
  have hc' : Closed ops (set1 ls i) := by
    intro k o ho hk e he hb
    simp only [set1, Bool.or_eq_true, decide_eq_true_eq] at hk ⊢
    rcases hk with rfl | hk
    · rw [hi] at ho; injection ho with ho; subst ho
      exact .inr (hr e he hb)
    · exact .inr (hc k o ho hk e he hb)
  have hsi : (es.map Ent.skel)[i]? = some ei.skel := by simp [he]
  have key : ∀ (j : Nat) (e : Ent), es[j]? = some e → q ∈ e.wr.map (·.1) → (j < i → ls j = true) ∧ (i ≤ j → ls j = false) := by
    intro j e hj hw
    have hsj : (es.map Ent.skel)[j]? = some e.skel := by simp [hj]
    constructor
    · intro hji
      rcases keys_pair hk hsj hsi hji with h | ⟨_, _, h⟩
      · have := mk_closed hc' i j (by simp [set1]) h
        simp only [set1, Bool.or_eq_true, decide_eq_true_eq] at this
        exact this.resolve_left (by omega)
      · exact (meets_spec h hw hq).elim
    · intro hij
      by_cases e' : j = i
      · subst e'; exact hl
      · rcases keys_pair hk hsi hsj (by omega) with h | ⟨_, h, _⟩
        · cases hls : ls j with
          | false => rfl
          | true => rw [mk_closed hc j i hls h] at hl; cases hl
        · exact (meets_spec h hw hq).elim
  have h1 := apB_tail (es := es) (ls := ls) (σ := σ) q i (ops.size - i) fun j e h1 h2 ho hw => (key j e ho hw).2 h1
  rw [show i + (ops.size - i) = ops.size by omega] at h1
  rw [h1]
  exact apB_congr q i fun j e hj ho hw => (key j e ho hw).1 hj

theorem step_E (hd : drawB ops = true) (hc : Closed ops ls) (hi : ops[i]? = some oi) (he : es[i]? = some ei) (hl : ls i = false) :
    upd (apE ops es ls E ops.size) oi.dst ei.x = apE ops es (set1 ls i) E ops.size := by
  have hlt : i < ops.size := (Array.getElem?_eq_some_iff.1 hi).1
  funext t
  by_cases hdst : oi.dst = some t
  · rw [upd_self hdst]
    have h1 := apE_tail (ops := ops) (es := es) (ls := set1 ls i) (E := E) t (i + 1) (ops.size - (i + 1)) fun j o h1 h2 ho hdj => by
      rcases draw_pair hd hi ho (by omega) with h | ⟨h, _⟩
      · cases hls : ls j with
        | false => simp only [set1, hls, Bool.or_false, decide_eq_false_iff_not]; omega
        | true => rw [mk_closed hc j i hls h] at hl; cases hl
      · exact absurd hdj ((Oper.apart_spec h).2.1 t hdst)
    rw [show i + 1 + (ops.size - (i + 1)) = ops.size by omega] at h1
    rw [h1]
    simp [apE, hi, he, set1, upd_self hdst]
  · rw [upd_other hdst]
    refine apE_congr t _ fun j o _ ho hdj => ?_
    have : j ≠ i := fun e => by subst e; rw [hi] at ho; injection ho with ho; subst ho; exact hdst hdj
    simp [set1, this]

theorem step_B (hk : drawKeys ops (es.map Ent.skel) = true) (hc : Closed ops ls) (hi : ops[i]? = some oi) (he : es[i]? = some ei) (hl : ls i = false) :
    updB (apB es ls σ ops.size) ei.wr = apB es (set1 ls i) σ ops.size := by
  have hlt : i < ops.size := (Array.getElem?_eq_some_iff.1 hi).1
  have hsi : (es.map Ent.skel)[i]? = some ei.skel := by simp [he]
  funext q
  by_cases hw : q ∈ ei.wr.map (·.1)
  · have h1 := apB_tail (es := es) (ls := set1 ls i) (σ := σ) q (i + 1) (ops.size - (i + 1)) fun j e h1 h2 hj hwj => by
      have hsj : (es.map Ent.skel)[j]? = some e.skel := by simp [hj]
      rcases keys_pair hk hsi hsj (by omega) with h | ⟨h, _, _⟩
      · cases hls : ls j with
        | false => simp only [set1, hls, Bool.or_false, decide_eq_false_iff_not]; omega
        | true => rw [mk_closed hc j i hls h] at hl; cases hl
      · exact (meets_spec h hwj hw).elim
    rw [show i + 1 + (ops.size - (i + 1)) = ops.size by omega] at h1
    rw [h1]
    simp only [apB, he, set1, decide_true, Bool.true_or, if_true]
    exact updB_self hw
  · rw [updB_other hw]
    refine apB_congr q _ fun j e _ hj hwj => ?_
    have : j ≠ i := fun e' => by subst e'; rw [he] at hj; injection hj with hj; subst hj; exact hw hwj
    simp [set1, this]
theorem step_L (hi : ops[i]? = some oi) (he : es[i]? = some ei) : (fun q => apL es ls L ops.size q ∨ q ∈ ei.m) = apL es (set1 ls i) L ops.size := by
  have hlt : i < ops.size := (Array.getElem?_eq_some_iff.1 hi).1
  funext q
  simp only [apL, eq_iff_iff, set1, Bool.or_eq_true, decide_eq_true_eq]
  constructor
  · rintro ((h | ⟨k, e', h1, h2, h3, h4⟩) | h)
    · exact .inl h
    · exact .inr ⟨k, e', h1, h2, .inr h3, h4⟩
    · exact .inr ⟨i, ei, hlt, he, .inl rfl, h⟩
  · rintro (h | ⟨k, e', h1, h2, h3, h4⟩)
    · exact .inl (.inl h)
    · rcases h3 with rfl | h3
      · rw [he] at h2; injection h2 with h2; subst h2
        exact .inr h4
      · exact .inl (.inr ⟨k, e', h1, h2, h3, h4⟩)
end

theorem count_step {n i : Nat} {ls : Nat → Bool} (hi : i < n) (hl : ls i = false) : ((List.range n).countP fun k => !(set1 ls i k)) + 1 ≤ (List.range n).countP fun k => !(ls k) := by
  induction n with
  | zero => omega
  | succ n ih =>
    simp only [List.range_succ, List.countP_append, List.countP_singleton]
    by_cases h : i = n
    · subst h
      have : ((List.range i).countP fun k => !(set1 ls i k)) = (List.range i).countP fun k => !(ls k) := by
        refine List.countP_congr fun k hk => ?_
        have := List.mem_range.1 hk
        simp [set1, show k ≠ i by omega]
      rw [this]
      simp [set1, hl]
    · have := ih (by omega)
      have e : set1 ls i n = ls n := by simp [set1, show n ≠ i by omega]
      simp only [e]
      omega

/-- In any order. -/
theorem run_any (hr : Run P ops L E σ es) (hd : drawB ops = true) (hk : drawKeys ops (es.map Ent.skel) = true) {w0 : World} {X : Nat → Prop} {D0 : Base} {Q : Exit → Act → World → Prop} {n : Nat} (hn : sizesOK ops n)
    (hQ : ∀ a w, a.tmps.size = n → St w0 X D0 (apL es (fun _ => true) L ops.size) (apE ops es (fun _ => true) E ops.size) (apB es (fun _ => true) σ ops.size) a w → Q .normal a w) :
    ∀ (fuel : Nat) (listed : Array Bool), listed.size = ops.size → Closed ops (fun k => listed.getD k false) → ((List.range ops.size).countP fun k => !(listed.getD k false)) ≤ fuel → ∀ a w, a.tmps.size = n →
      St w0 X D0 (apL es (fun k => listed.getD k false) L ops.size) (apE ops es (fun k => listed.getD k false) E ops.size) (apB es (fun k => listed.getD k false) σ ops.size) a w → wpAny P .any ops Q fuel listed a w := by
  have hback : ∀ (i : Nat) (o : Oper), ops[i]? = some o → ∀ e ∈ o.after.toList, Region.binds .any e = true → e.on < i := by
    intro i o ho e he hb
    simp only [drawB, Bool.and_eq_true] at hd
    have := back_spec hd.1 i o (by simpa using ho) e he hb
    omega
  have hdone : ∀ (listed : Array Bool), listed.size = ops.size → Region.ready .any ops listed = [] → ∀ k, k < ops.size → listed.getD k false = true := by
    intro listed hsz hrd k
    induction k using Nat.strongRecOn with
    | _ k ih =>
      intro hk
      cases hl : listed.getD k false with
      | true => rfl
      | false =>
        exfalso
        have : k ∈ Region.ready .any ops listed := by
          rw [mem_ready]
          refine ⟨?_, ops[k], Array.getElem?_eq_getElem hk, fun e he hb => ?_⟩
          · simpa [Array.getD_eq_getD_getElem?, Array.getElem?_eq_getElem (show k < listed.size by omega)] using hl
          · have hlt := hback k _ (Array.getElem?_eq_getElem hk) e (by simpa using he) hb
            exact ih e.on hlt (by omega)
        rw [hrd] at this
        cases this
  have hfin : ∀ (listed : Array Bool), listed.size = ops.size → Region.ready .any ops listed = [] → ∀ a w, a.tmps.size = n →
      St w0 X D0 (apL es (fun k => listed.getD k false) L ops.size) (apE ops es (fun k => listed.getD k false) E ops.size) (apB es (fun k => listed.getD k false) σ ops.size) a w → Q .normal a w := by
    intro listed hsz hrd a w ha hs
    have hall := hdone listed hsz hrd
    refine hQ a w ha ?_
    have e1 : apE ops es (fun k => listed.getD k false) E ops.size = apE ops es (fun _ => true) E ops.size := by
      funext t
      exact apE_congr t _ fun j o hj _ _ => hall j hj
    have e2 : apB es (fun k => listed.getD k false) σ ops.size = apB es (fun _ => true) σ ops.size := by
      funext t
      exact apB_congr t _ fun j o hj _ _ => hall j hj
    rw [← e1, ← e2]
    obtain ⟨D, ρ, hs⟩ := hs
    refine ⟨D, ρ, hs.more fun q hq => ?_⟩
    rcases hq with hq | ⟨i, e, h1, h2, h3, h4⟩
    · exact .inl hq
    · exact .inr ⟨i, e, h1, h2, rfl, h4⟩
  intro fuel
  induction fuel with
  | zero =>
    intro listed hsz hc hcount a w ha hs
    have hrd : Region.ready .any ops listed = [] := by
      by_cases hne : Region.ready .any ops listed = []
      · exact hne
      · exfalso
        obtain ⟨i, hi⟩ := List.exists_mem_of_ne_nil _ hne
        obtain ⟨h0, o, ho, _⟩ := mem_ready.1 hi
        have hlt : i < ops.size := (Array.getElem?_eq_some_iff.1 ho).1
        have hz : ((List.range ops.size).countP fun k => !(listed.getD k false)) = 0 := by omega
        rw [List.countP_eq_zero] at hz
        have := hz i (List.mem_range.2 hlt)
        simp [Array.getD_eq_getD_getElem?, Array.getElem?_eq_getElem (show i < listed.size by omega)] at this h0
        rw [h0] at this
        cases this
    exact ⟨hrd, hfin listed hsz hrd a w ha hs⟩
  | succ fuel ih =>
    intro listed hsz hc hcount a w ha hs
    refine ⟨fun hrd => hfin listed hsz hrd a w ha hs, fun i hi => ?_⟩
    obtain ⟨h0, o, ho, hall⟩ := mem_ready.1 hi
    have hlt : i < ops.size := (Array.getElem?_eq_some_iff.1 ho).1
    have hle : i < es.length := by rw [hr.len]; exact hlt
    have he := List.getElem?_eq_getElem hle
    have hl : listed.getD i false = false := by
      simp only [Array.getD_eq_getD_getElem?, Array.getElem?_eq_getElem (show i < listed.size by omega), Option.getD_some] at h0 ⊢
      exact h0
    have hr' : ∀ e ∈ o.after.toList, Region.binds .any e = true → listed.getD e.on false = true := fun e he hb => hall e (by simpa using he) hb
    have hls : (fun k => (listed.setIfInBounds i true).getD k false) = set1 (fun k => listed.getD k false) i := by
      funext k
      by_cases hik : i = k
      · subst hik
        simp [set1, Array.getD_eq_getD_getElem?, show i < listed.size by omega]
      · simp only [set1, show ¬ k = i from fun e => hik e.symm, decide_false, Bool.false_or]
        exact getD_set_ne false hik
    have hsem := hr.op i _ _ ho he (apL es (fun k => listed.getD k false) L ops.size) (apE ops es (fun k => listed.getD k false) E ops.size) (apB es (fun k => listed.getD k false) σ ops.size)
      (fun t ht => ready_E (ls := fun k => listed.getD k false) hd hc ho hl hr' ht) (fun q hq => ready_B (ls := fun k => listed.getD k false) hk hc ho he hl hr' hq) (fun q hq hL => by
        obtain ⟨h1, h2⟩ := hr.new i _ he q hq
        rcases hL with hL | ⟨i', e', h3, h4, h5, h6⟩
        · exact h1 hL
        · refine h2 i' e' h4 (fun e0 => ?_) h6
          subst e0
          simp only at h5
          rw [hl] at h5
          cases h5) w0 X D0 a w hs (fun dd hdd => by rw [ha]; exact hn i _ dd ho hdd)
    have hstep : ∀ a' w', Goes (fun q => apL es (fun k => listed.getD k false) L ops.size q ∨ q ∈ es[i].m) (upd (apE ops es (fun k => listed.getD k false) E ops.size) o.dst es[i].x) (updB (apB es (fun k => listed.getD k false) σ ops.size) es[i].wr) w0 X D0 a.tmps.size a' w' →
        wpAny P .any ops Q fuel (listed.setIfInBounds i true) a' w' := by
      rintro a' w' ⟨h1, h2⟩
      rw [step_E (ls := fun k => listed.getD k false) hd hc ho he hl, step_B (ls := fun k => listed.getD k false) hk hc ho he hl, step_L (ls := fun k => listed.getD k false) ho he, ← hls] at h2
      refine ih _ (by simpa using hsz) ?_ ?_ a' w' (h1.trans ha) h2
      · rw [hls]
        intro k o' ho' hk' e' he' hb'
        simp only [set1, Bool.or_eq_true, decide_eq_true_eq] at hk' ⊢
        rcases hk' with rfl | hk'
        · rw [ho] at ho'; injection ho' with ho'; subst ho'
          exact .inr (hr' e' he' hb')
        · exact .inr (hc k o' ho' hk' e' he' hb')
      · have e1 : (fun k => !(listed.setIfInBounds i true).getD k false) = fun k => !(set1 (fun k => listed.getD k false) i k) := by
          funext k
          rw [← hls]
        rw [e1]
        have := count_step (ls := fun k => listed.getD k false) hlt hl
        omega
    unfold wpOp
    simp only [ho]
    by_cases hw : Region.wanted o (yielded ops a.tmps) = true
    · rw [if_pos hw] at hsem ⊢
      refine .inl ?_
      have := Oper.wp_mono (Q := No) hstep hsem
      unfold Oper.wp at this ⊢
      generalize (execOp a.eval o).run P w = res at this ⊢
      cases res with
      | ok nx w' =>
        cases nx <;> simp only [Oper.upon] at this ⊢ <;> first
          | exact this
          | exact Calls.mono this (fun e w'' he' => by cases e <;> first | exact he' | exact he'.elim | (obtain ⟨_, _, hf⟩ := he'; exact hf.elim))
      | halt x w' => cases x <;> simp only [Oper.upon] at this ⊢ <;> exact this.elim
    · rw [if_neg hw] at hsem ⊢
      exact hstep _ _ hsem
end
end Go.Proofs.Ytikfkipalifohaa.A
