/- The layer, part 13: a call's doing, as a function of what its contract says. -/
import Derived.Test.YtikfkipalifohaaA12
namespace Go.Proofs.Ytikfkipalifohaa.A
open Go Go.RowKit

def handL : List Bool → List SV → Nat → List (Nat × Nat)
  | b :: bs, x :: xs, j => match handS b x with
    | some i => (j, i) :: handL bs xs (j + 1)
    | none => handL bs xs (j + 1)
  | _, _, _ => []
def lentLs : List Bool → List SV → List Nat
  | b :: bs, x :: xs => lentA b x ++ lentLs bs xs
  | _, _ => []
def argsOf (S : Nat → Option Blk) : List Bool → List SV → List SV
  | b :: bs, x :: xs => argS S b x :: argsOf S bs xs
  | _, _ => []
mutual
def idsS : SV → List Nat
  | .own i => [i]
  | .agg cs => idsL cs
  | .tup vs => idsL vs
  | _ => []
def idsL : List SV → List Nat
  | [] => []
  | x :: xs => idsS x ++ idsL xs
end
def rowB : Option Blk → Bool
  | some (.row _ _ _) => true
  | _ => false
def iceB : Option Blk → Bool
  | some (.ice _) => true
  | _ => false
def handOf (bs : List Bool) (xs : List SV) (j : Nat) : Option Nat := match bs[j]?, xs[j]? with | some b, some x => handS b x | _, _ => none
/-- May this be handed over? -/
def handOK (S : Nat → Option Blk) (R : Sto) : List SV → Nat → List (Nat × Nat) → Bool
  | _, _, [] => true
  | xs, nx, (j, i) :: hd => decide (i < nx) && (match xs[j]?, S i with
      | some (.own _), some (.row _ _ _) => true
      | some (.ptr _ _), some (.box cs) => cs.all isDat && (match lkB R j with | some (.box out) => out.all isDat | _ => false)
      | _, _ => false) && handOK S R xs nx hd
def distB : List Nat → Bool
  | [] => true
  | i :: l => !l.contains i && distB l
def handW (S : Nat → Option Blk) (R : Sto) : List (Nat × Nat) → Sto
  | [] => []
  | (j, i) :: hd => (i, if rowB (S i) then none else lkB R j) :: handW S R hd
def frzW (S : Nat → Option Blk) : List Nat → Sto
  | [] => []
  | i :: l => if rowB (S i) then (i, frz (S i)) :: frzW S l else frzW S l
def newW (R : Sto) (nx : Nat) : List Nat → Sto
  | [] => []
  | q :: l => (nx + q, lkB R q) :: newW R nx l
def callR (nx : Nat) (S : Nat → Option Blk) (bs : List Bool) (xs : List SV) (r : SV) (R : Sto) : OpR :=
  { ok := decide (bs.length = xs.length) && inS (idsS r) r && (idsS r).all (fun q => rowB (lkB R q)) && handOK S R xs nx (handL bs xs 0) && distB ((handL bs xs 0).map (·.2)) &&
      ((handL bs xs 0).all fun p => !(lentLs bs xs).contains p.2) && ((lentLs bs xs).all fun i => decide (i < nx) && (rowB (S i) || iceB (S i)))
    x := shS nx r
    wr := newW R nx (idsS r) ++ (handW S R (handL bs xs 0) ++ frzW S (lentLs bs xs))
    m := (idsS r).map (nx + ·)
    rd := (handL bs xs 0).map (·.2) ++ lentLs bs xs }

section
variable {S S' : Nat → Option Blk} {R : Sto}
theorem argsOf_zip : ∀ (bs : List Bool) (xs : List SV), argsOf S bs xs = List.zipWith (argS S) bs xs
  | [], _ => by simp [argsOf]
  | b :: bs, [] => by simp [argsOf]
  | b :: bs, x :: xs => by simp [argsOf, argsOf_zip bs xs]
theorem handL_spec : ∀ (bs : List Bool) (xs : List SV) (k j i : Nat), ((k + j, i) ∈ handL bs xs k ↔ ∃ b x, bs[j]? = some b ∧ xs[j]? = some x ∧ handS b x = some i)
  | [], xs, k, j, i => by simp [handL]
  | b :: bs, [], k, j, i => by simp [handL]
  | b :: bs, x :: xs, k, j, i => by
    have key : ∀ (bs : List Bool) (xs : List SV) (k' : Nat) (p : Nat × Nat), p ∈ handL bs xs k' → k' ≤ p.1 := by
      intro bs
      induction bs with
      | nil => intro xs k' p h; simp [handL] at h
      | cons b bs ih =>
        intro xs k' p h
        cases xs with
        | nil => simp [handL] at h
        | cons x xs =>
          simp only [handL] at h
          split at h
          · rcases List.mem_cons.1 h with rfl | h
            · exact Nat.le_refl _
            · exact Nat.le_of_succ_le (ih xs (k' + 1) p h)
          · exact Nat.le_of_succ_le (ih xs (k' + 1) p h)
    simp only [handL]
    cases j with
    | zero =>
      simp only [List.getElem?_cons_zero, Option.some.injEq, Nat.add_zero]
      split
      · rename_i i' hi
        constructor
        · intro h
          rcases List.mem_cons.1 h with h | h
          · injection h with _ h
            subst h
            exact ⟨b, x, rfl, rfl, hi⟩
          · have := key _ _ _ _ h
            simp at this
            omega
        · rintro ⟨b', x', rfl, rfl, h⟩
          rw [hi] at h
          injection h with h
          subst h
          exact List.mem_cons_self
      · rename_i hi
        constructor
        · intro h
          have := key _ _ _ _ h
          simp at this
          omega
        · rintro ⟨b', x', rfl, rfl, h⟩
          rw [hi] at h
          cases h
    | succ j =>
      have ih := handL_spec bs xs (k + 1) j i
      rw [show k + 1 + j = k + (j + 1) by omega] at ih
      simp only [List.getElem?_cons_succ]
      rw [← ih]
      split
      · constructor
        · intro h
          rcases List.mem_cons.1 h with h | h
          · injection h with h _
            omega
          · exact h
        · exact fun h => List.mem_cons_of_mem _ h
      · exact Iff.rfl
theorem lentLs_spec : ∀ (bs : List Bool) (xs : List SV) (j : Nat) (b : Bool) (x : SV), bs[j]? = some b → xs[j]? = some x → ∀ i ∈ lentA b x, i ∈ lentLs bs xs
  | [], _, j, b, x, hb, _ => by simp at hb
  | _ :: _, [], j, b, x, _, hx => by simp at hx
  | b0 :: bs, x0 :: xs, 0, b, x, hb, hx => by
    simp at hb hx
    subst hb hx
    intro i hi
    exact List.mem_append_left _ hi
  | b0 :: bs, x0 :: xs, j + 1, b, x, hb, hx => by
    intro i hi
    exact List.mem_append_right _ (lentLs_spec bs xs j b x (by simpa using hb) (by simpa using hx) i hi)
theorem handOK_spec {xs : List SV} {nx : Nat} : ∀ {hd : List (Nat × Nat)}, handOK S R xs nx hd = true → ∀ j i, (j, i) ∈ hd → i < nx ∧ ((∃ i' T sz rows, xs[j]? = some (.own i') ∧ S i = some (.row T sz rows)) ∨ ∃ i' o cs out, xs[j]? = some (.ptr i' o) ∧ S i = some (.box cs) ∧ cs.all isDat = true ∧ lkB R j = some (.box out) ∧ out.all isDat = true)
  | [], _, j, i, h => by cases h
  | (j0, i0) :: hd, h, j, i, hm => by
    simp only [handOK, Bool.and_eq_true, decide_eq_true_eq] at h
    rcases List.mem_cons.1 hm with hm | hm
    · injection hm with e1 e2
      subst e1 e2
      refine ⟨h.1.1, ?_⟩
      have h2 := h.1.2
      split at h2
      · rename_i i' T sz rows h3 h4
        exact .inl ⟨i', T, sz, rows, h3, h4⟩
      · rename_i i' o cs h3 h4
        simp only [Bool.and_eq_true] at h2
        split at h2
        · rename_i out h5
          exact .inr ⟨i', o, cs, out, h3, h4, h2.1, h5, h2.2⟩
        · cases h2.2
      · cases h2
    · exact handOK_spec h.2 j i hm
theorem distB_spec : ∀ {l : List (Nat × Nat)}, distB (l.map (·.2)) = true → ∀ j j' i, (j, i) ∈ l → (j', i) ∈ l → j = j'
  | [], _, j, j', i, h, _ => by cases h
  | (j0, i0) :: l, h, j, j', i, h1, h2 => by
    simp only [List.map_cons, distB, Bool.and_eq_true, Bool.not_eq_true', List.contains_eq_mem, decide_eq_false_iff_not] at h
    rcases List.mem_cons.1 h1 with h1 | h1 <;> rcases List.mem_cons.1 h2 with h2 | h2
    · injection h1 with e1 _; injection h2 with e2 _; exact e1.trans e2.symm
    · injection h1 with e1 e2
      subst e2
      exact (h.1 (List.mem_map.2 ⟨(j', i), by assumption, rfl⟩)).elim
    · injection h2 with e1 e2
      subst e2
      exact (h.1 (List.mem_map.2 ⟨(j, i), by assumption, rfl⟩)).elim
    · exact distB_spec h.2 j j' i h1 h2
theorem argS_of {b : Bool} {x : SV} (h1 : ∀ i, handS b x = some i → S' i = S i) (h2 : ∀ i ∈ lentA b x, S' i = S i) (h3 : ∀ i cs, handS b x = some i → S i = some (.box cs) → cs.all isDat = true) : argS S' b x = argS S b x := by
  have lend : ∀ c, (∀ i ∈ lentL c, S' i = S i) → lendL S' c = lendL S c := by
    intro c hc
    cases c <;> simp only [lendL]
    rename_i i
    rw [hc i (by simp [lentL])]
  have lends : ∀ y, (∀ i ∈ lentS y, S' i = S i) → lendS S' y = lendS S y := by
    intro y hy
    cases y with
    | agg cs =>
      simp only [lendS]
      congr 1
      refine List.map_congr_left fun c hc => lend c fun i hi => hy i ?_
      simp only [lentS, List.mem_flatMap]
      exact ⟨c, hc, hi⟩
    | _ => exact lend _ (by simpa only [lentS] using hy)
  cases hh : handS b x with
  | none =>
    rw [argS_none hh, argS_none hh]
    refine lends x fun i hi => h2 i ?_
    simp only [lentA, hh]
    exact hi
  | some i =>
    have e := h1 i hh
    rcases handS_spec hh with ⟨rfl, rfl⟩ | rfl
    · simp only [argS, e, if_true]
    · simp only [argS, e]
      split
      · rename_i cs hb
        congr 1
        refine List.map_congr_left fun c hc => lend c fun i' hi' => ?_
        have := List.all_eq_true.1 (h3 i cs hh hb) c hc
        rw [lendL_dat this] at hi'
        cases hi'
      · rfl
theorem argsOf_of : ∀ {bs : List Bool} {xs : List SV} (k : Nat), (∀ j i, (j, i) ∈ handL bs xs k → S' i = S i) → (∀ i ∈ lentLs bs xs, S' i = S i) → (∀ j i cs, (j, i) ∈ handL bs xs k → S i = some (.box cs) → cs.all isDat = true) → argsOf S' bs xs = argsOf S bs xs
  | [], _, _, _, _, _ => by simp [argsOf]
  | _ :: _, [], _, _, _, _ => by simp [argsOf]
  | b :: bs, x :: xs, k, h1, h2, h3 => by
    simp only [argsOf]
    have hm : ∀ i, handS b x = some i → (k, i) ∈ handL (b :: bs) (x :: xs) k := by
      intro i hi
      simp only [handL, hi]
      exact List.mem_cons_self
    have hr : ∀ p, p ∈ handL bs xs (k + 1) → p ∈ handL (b :: bs) (x :: xs) k := by
      intro p hp
      simp only [handL]
      split
      · exact List.mem_cons_of_mem _ hp
      · exact hp
    rw [argS_of (S := S) (S' := S') (fun i hi => h1 k i (hm i hi)) (fun i hi => h2 i (List.mem_append_left _ hi)) (fun i cs hi => h3 k i cs (hm i hi)),
      argsOf_of (k + 1) (fun j i hj => h1 j i (hr _ hj)) (fun i hi => h2 i (List.mem_append_right _ hi)) (fun j i cs hj => h3 j i cs (hr _ hj))]
theorem updB_append {σ : Nat → Option Blk} : ∀ (a b : Sto) (q : Nat), updB σ (a ++ b) q = if q ∈ a.map (·.1) then updB σ a q else updB σ b q
  | [], b, q => by simp
  | (i, v) :: a, b, q => by
    simp only [List.cons_append, updB, List.map_cons, List.mem_cons]
    by_cases h : i = q
    · simp [h]
    · simp only [h, if_false, show ¬ q = i from fun e => h e.symm, false_or]
      exact updB_append a b q
theorem newW_keys {nx : Nat} : ∀ (l : List Nat), (newW R nx l).map (·.1) = l.map (nx + ·)
  | [] => rfl
  | q :: l => by simp [newW, newW_keys l]
theorem newW_at {σ : Nat → Option Blk} {nx : Nat} : ∀ (l : List Nat) (q : Nat), q ∈ l → updB σ (newW R nx l) (nx + q) = lkB R q
  | [], q, h => by cases h
  | q0 :: l, q, h => by
    simp only [newW, updB]
    by_cases e : nx + q0 = nx + q
    · rw [if_pos e]; congr 1; omega
    · rw [if_neg e]
      rcases List.mem_cons.1 h with h | h
      · exact absurd (by rw [h]) e
      · exact newW_at l q h
theorem handW_keys : ∀ (l : List (Nat × Nat)), (handW S R l).map (·.1) = l.map (·.2)
  | [] => rfl
  | (j, i) :: l => by simp [handW, handW_keys l]
theorem handW_at {σ : Nat → Option Blk} : ∀ (l : List (Nat × Nat)) (j i : Nat), distB (l.map (·.2)) = true → (j, i) ∈ l → updB σ (handW S R l) i = if rowB (S i) then none else lkB R j
  | [], j, i, _, h => by cases h
  | (j0, i0) :: l, j, i, hd, h => by
    have hd' := hd
    simp only [List.map_cons, distB, Bool.and_eq_true] at hd'
    simp only [handW, updB]
    by_cases e : i0 = i
    · rw [if_pos e]
      subst e
      have := distB_spec hd j0 j i0 List.mem_cons_self h
      rw [this]
    · rw [if_neg e]
      rcases List.mem_cons.1 h with h | h
      · injection h with _ h; exact absurd h.symm e
      · exact handW_at l j i hd'.2 h
theorem frzW_at {σ : Nat → Option Blk} : ∀ (l : List Nat) (i : Nat), (rowB (S i) = true → i ∈ l) → updB σ (frzW S l) i = if rowB (S i) then frz (S i) else σ i
  | [], i, h => by
    by_cases hr : rowB (S i) = true
    · exact absurd (h hr) (by simp)
    · simp [frzW, updB, hr]
  | i0 :: l, i, h => by
    by_cases e : i0 = i
    · subst e
      by_cases hr : rowB (S i0) = true
      · simp [frzW, hr, updB]
      · simp only [frzW, hr, Bool.false_eq_true, if_false]
        rw [frzW_at l i0 (fun h => absurd h hr)]
        simp [hr]
    · have ih := frzW_at (σ := σ) l i fun hr => (List.mem_cons.1 (h hr)).resolve_left fun e' => e e'.symm
      simp only [frzW]
      split
      · simp only [updB, if_neg e]; exact ih
      · exact ih
theorem frzW_not {σ : Nat → Option Blk} : ∀ (l : List Nat) (i : Nat), i ∉ l → updB σ (frzW S l) i = σ i
  | [], i, _ => rfl
  | i0 :: l, i, h => by
    simp only [List.mem_cons, not_or] at h
    simp only [frzW]
    split
    · simp only [updB, if_neg (fun e => h.1 e.symm : ¬ i0 = i)]; exact frzW_not l i h.2
    · exact frzW_not l i h.2
end

section
variable {P : Program} {o : Oper} {L : Nat → Prop} {E : Nat → SV} {σ σ' : Nat → Option Blk} {nx : Nat}
theorem callR_good {f : FuncId} {fx : Operand} {args : Array Operand} {ts : Array TypeId} {bs : List Bool} {xs : List SV} {r : SV} {R : Sto} (ho : o.op = .call { callee := .value fx, args := args, argTypes := ts }) (hf : evO E fx = .d (.fn f)) (hxs : args.toList.map (evO E) = xs)
    (hm : ∀ q ∈ (callR nx σ bs xs r R).m, ¬ L q) (hrd : ∀ i ∈ (callR nx σ bs xs r R).rd, σ' i = σ i) (hok : (callR nx σ bs xs r R).ok = true) (hF : FnOK P f (argsOf σ bs xs) r R) : Good P o L E σ' (callR nx σ bs xs r R) := by
  subst hxs
  generalize hxs : args.toList.map (evO E) = xs at *
  simp only [callR, Bool.and_eq_true, decide_eq_true_eq] at hok
  obtain ⟨⟨⟨⟨⟨⟨h1, h2⟩, h3⟩, h4⟩, h5⟩, h6⟩, h7⟩ := hok
  simp only [callR] at hm hrd
  have hhand : ∀ j i, handOf bs xs j = some i ↔ (j, i) ∈ handL bs xs 0 := by
    intro j i
    have := handL_spec bs xs 0 j i
    rw [Nat.zero_add] at this
    rw [this]
    unfold handOf
    constructor
    · intro h
      split at h
      · rename_i b x hb hx
        exact ⟨b, x, hb, hx, h⟩
      · cases h
    · rintro ⟨b, x, hb, hx, h⟩
      simp [hb, hx, h]
  have rH : ∀ j i, (j, i) ∈ handL bs xs 0 → σ' i = σ i := fun j i h => hrd i (List.mem_append_left _ (List.mem_map.2 ⟨(j, i), h, rfl⟩))
  have rL : ∀ i ∈ lentLs bs xs, σ' i = σ i := fun i h => hrd i (List.mem_append_right _ h)
  have hbox : ∀ j i cs, (j, i) ∈ handL bs xs 0 → σ i = some (.box cs) → cs.all isDat = true := by
    intro j i cs h hb
    rcases (handOK_spec h4 j i h).2 with ⟨_, _, _, _, _, k⟩ | ⟨_, _, cs', _, _, k, k2, _⟩
    · rw [hb] at k; cases k
    · rw [hb] at k; injection k with k; injection k with k; subst k; exact k2
  have eargs : argsOf σ' bs xs = argsOf σ bs xs := argsOf_of 0 rH rL hbox
  have hargj : ∀ j i, (j, i) ∈ handL bs xs 0 → (∃ T sz rows, σ i = some (.row T sz rows) ∧ (argsOf σ bs xs)[j]? = some (.fresh T sz rows)) ∨ ∃ cs out, σ i = some (.box cs) ∧ cs.all isDat = true ∧ (argsOf σ bs xs)[j]? = some (.pbox (cs.map (lendL σ))) ∧ lkB R j = some (.box out) ∧ out.all isDat = true := by
    intro j i h
    obtain ⟨b, x, hb, hx, hh⟩ := (by simpa using (handL_spec bs xs 0 j i).1 (by simpa using h) : ∃ b x, bs[j]? = some b ∧ xs[j]? = some x ∧ handS b x = some i)
    have ha : (argsOf σ bs xs)[j]? = some (argS σ b x) := by rw [argsOf_zip, List.getElem?_zipWith, hb, hx]
    rcases (handOK_spec h4 j i h).2 with ⟨i', T, sz, rows, k1, k2⟩ | ⟨i', o', cs, out, k1, k2, k3, k4, k5⟩
    · rw [hx] at k1
      injection k1 with k1
      subst k1
      rcases handS_spec hh with ⟨e, rfl⟩ | e
      · injection e with e
        subst e
        exact .inl ⟨T, sz, rows, k2, by rw [ha]; simp [argS, k2]⟩
      · cases e
    · rw [hx] at k1
      injection k1 with k1
      subst k1
      rcases handS_spec hh with ⟨e, _⟩ | e
      · cases e
      · injection e with e1 e2
        subst e1 e2
        exact .inr ⟨cs, out, k2, k3, by rw [ha]; simp [argS, k2], k4, k5⟩
  have hc : CallOf σ' (args.toList.map (evO E)) bs (argsOf σ bs xs) (handOf bs xs) (lentLs bs xs) := by
    rw [hxs]
    refine ⟨h1, by rw [← eargs, argsOf_zip], fun j => rfl, fun j b x hb hx hn i hi => lentLs_spec bs xs j b x hb hx i (by simp only [lentA, hn]; exact hi), fun j i hj => ?_, fun j j' i hj hj' => distB_spec h5 j j' i ((hhand j i).1 hj) ((hhand j' i).1 hj'), fun j i hj => ?_, fun i hi => ?_⟩
    · have hj := (hhand j i).1 hj
      rcases hargj j i hj with ⟨T, sz, rows, k1, k2⟩ | ⟨cs, out, k1, k2, k3, _⟩
      · exact .inl ⟨T, sz, rows, by rw [rH j i hj]; exact k1, k2⟩
      · refine .inr ⟨cs, by rw [rH j i hj]; exact k1, k2, ?_⟩
        rw [k3]
        congr 2
        refine List.map_congr_left fun c hc => ?_
        have := List.all_eq_true.1 k2 c hc
        cases c <;> simp_all [isDat, lendL]
    · have := List.all_eq_true.1 h6 (j, i) ((hhand j i).1 hj)
      simpa using this
    · have := List.all_eq_true.1 h7 i hi
      simp only [Bool.and_eq_true, Bool.or_eq_true] at this
      rw [rL i hi]
      cases hb : σ i with
      | none => simp [hb, rowB, iceB] at this
      | some b =>
        cases b with
        | box cs => simp [hb, rowB, iceB] at this
        | row T sz rows => exact .inl ⟨T, sz, rows, rfl⟩
        | ice rows => exact .inr ⟨rows, rfl⟩
  have hlow : ∀ i, i < nx → ∀ q, i ≠ nx + q := fun i h q => by omega
  have hltH : ∀ j i, (j, i) ∈ handL bs xs 0 → i < nx := fun j i h => (handOK_spec h4 j i h).1
  have hltL : ∀ i ∈ lentLs bs xs, i < nx := fun i h => by
    have := List.all_eq_true.1 h7 i h
    simp only [Bool.and_eq_true, decide_eq_true_eq] at this
    exact this.1
  have kN : ∀ i, i < nx → i ∉ (newW R nx (idsS r)).map (·.1) := by
    intro i hi h
    rw [newW_keys] at h
    obtain ⟨q, _, e⟩ := List.mem_map.1 h
    omega
  have kH : ∀ j i, (j, i) ∈ handL bs xs 0 → i ∈ (handW σ R (handL bs xs 0)).map (·.1) := by
    intro j i h
    rw [handW_keys]
    exact List.mem_map.2 ⟨(j, i), h, rfl⟩
  have kH' : ∀ i, i ∈ (handW σ R (handL bs xs 0)).map (·.1) → ∃ j, (j, i) ∈ handL bs xs 0 := by
    intro i h
    rw [handW_keys] at h
    obtain ⟨⟨j, i'⟩, h1, e⟩ := List.mem_map.1 h
    exact ⟨j, by simp at e; rw [← e]; exact h1⟩
  have ha : AfterOf L σ' (updB σ' (newW R nx (idsS r) ++ (handW σ R (handL bs xs 0) ++ frzW σ (lentLs bs xs)))) (argsOf σ bs xs) (handOf bs xs) (lentLs bs xs) R (idsS r) nx := by
    refine ⟨fun q hq => hm _ (List.mem_map.2 ⟨q, hq, rfl⟩), fun q hq => ?_, fun q hq => ?_, fun j i T sz rows hj hag => ?_, fun j i cs hj hag => ?_, fun i hi => ?_, fun i hn hh hl => ?_⟩
    · rw [updB_append, if_pos (by rw [newW_keys]; exact List.mem_map.2 ⟨q, hq, rfl⟩)]
      exact newW_at _ q hq
    · have := List.all_eq_true.1 h3 q hq
      cases hb : lkB R q with
      | none => simp [hb, rowB] at this
      | some b =>
        cases b with
        | row T sz rows => exact ⟨T, sz, rows, rfl⟩
        | box cs => simp [hb, rowB] at this
        | ice rows => simp [hb, rowB] at this
    · have hj := (hhand j i).1 hj
      rw [updB_append, if_neg (kN i (hltH j i hj)), updB_append, if_pos (kH j i hj), handW_at _ j i h5 hj]
      rcases hargj j i hj with ⟨_, _, _, k1, _⟩ | ⟨cs, out, k1, k2, k3, _⟩
      · simp [k1, rowB]
      · rw [k3] at hag; injection hag with hag; cases hag
    · have hj := (hhand j i).1 hj
      rcases hargj j i hj with ⟨_, _, _, _, k1⟩ | ⟨cs', out, k1, k2, k3, k4, k5⟩
      · rw [k1] at hag; injection hag with hag; cases hag
      · refine ⟨out, k4, k5, ?_⟩
        rw [updB_append, if_neg (kN i (hltH j i hj)), updB_append, if_pos (kH j i hj), handW_at _ j i h5 hj]
        simp [k1, rowB, k4]
    · have hnH : i ∉ (handW σ R (handL bs xs 0)).map (·.1) := by
        intro h
        obtain ⟨j, hj⟩ := kH' i h
        have := List.all_eq_true.1 h6 (j, i) hj
        simp at this
        exact this hi
      rw [updB_append, if_neg (kN i (hltL i hi)), updB_append, if_neg hnH, frzW_at _ i (fun _ => hi), rL i hi]
      have := List.all_eq_true.1 h7 i hi
      simp only [Bool.and_eq_true, Bool.or_eq_true] at this
      cases hb : σ i with
      | none => simp [hb, rowB, iceB] at this
      | some b => cases b <;> simp_all [rowB, iceB, frz]
    · have k1 : i ∉ (newW R nx (idsS r)).map (·.1) := by
        rw [newW_keys]
        intro h
        obtain ⟨q, hq, e⟩ := List.mem_map.1 h
        exact hn q hq e.symm
      have k2 : i ∉ (handW σ R (handL bs xs 0)).map (·.1) := by
        intro h
        obtain ⟨j, hj⟩ := kH' i h
        exact hh j ((hhand j i).2 hj)
      rw [updB_append, if_neg k1, updB_append, if_neg k2, frzW_not _ i hl]
  exact sem_call ho hf hc ha h2 hF
end
end Go.Proofs.Ytikfkipalifohaa.A
