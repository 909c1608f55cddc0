/- The layer, part 7: a call in the caller's state. -/
import Derived.Test.YtikfkipalifohaaA6
namespace Go.Proofs.Ytikfkipalifohaa.A
open Go Go.RowKit

/-- Data alone? -/
def isDat : SV → Bool
  | .d _ => true
  | .nils => true
  | _ => false
theorem dat_any {w : World} {D : Nat → Prop} {ρ ρ' : Nat → Option (Option Nat)} {σ σ' : Nat → Option Blk} : ∀ {cs : List SV} {vs : List Value}, cs.all isDat = true → SReps w D ρ σ cs vs → SReps w D ρ' σ' cs vs
  | [], vs, _, h => by simpa [SReps] using h
  | c :: cs, vs, hd, h => by
    simp only [List.all_cons, Bool.and_eq_true] at hd
    simp only [SReps] at h ⊢
    obtain ⟨v, vs', h1, h2, h3⟩ := h
    refine ⟨v, vs', h1, ?_, dat_any hd.2 h3⟩
    cases c <;> simp only [isDat, Bool.false_eq_true] at hd <;> first | exact hd.1.elim | simpa only [SRep] using h2

/-- What becomes of a number whose slice was lent. -/
def frz : Option Blk → Option Blk
  | some (.row _ _ rows) => some (.ice rows)
  | b => b
/-- The arguments as the contract has them; which numbers they hand over. -/
structure CallOf (σ : Nat → Option Blk) (xs : List SV) (bs : List Bool) (args : List SV) (hand : Nat → Option Nat) (lent : List Nat) : Prop where
  len : bs.length = xs.length
  eargs : args = List.zipWith (argS σ) bs xs
  ehand : ∀ j, hand j = match bs[j]?, xs[j]? with | some b, some x => handS b x | _, _ => none
  elent : ∀ (j : Nat) (b : Bool) (x : SV), bs[j]? = some b → xs[j]? = some x → handS b x = none → ∀ i ∈ lentS x, i ∈ lent
  ok : ∀ j i, hand j = some i → (∃ T sz rows, σ i = some (.row T sz rows) ∧ args[j]? = some (.fresh T sz rows)) ∨ ∃ cs, σ i = some (.box cs) ∧ cs.all isDat = true ∧ args[j]? = some (.pbox (cs.map (lendL σ)))
  dist : ∀ j j' i, hand j = some i → hand j' = some i → j = j'
  apart : ∀ j i, hand j = some i → i ∉ lent
  lok : ∀ i ∈ lent, (∃ T sz rows, σ i = some (.row T sz rows)) ∨ ∃ rows, σ i = some (.ice rows)

theorem lendL_dat {c : SV} (h : isDat c = true) : lentL c = [] := by cases c <;> simp_all [isDat, lentL]
theorem lentL_dats {cs : List SV} (h : cs.all isDat = true) : cs.flatMap lentL = [] := by
  induction cs with
  | nil => rfl
  | cons c cs ih =>
    simp only [List.all_cons, Bool.and_eq_true] at h
    simp [lendL_dat h.1, ih h.2]

section
variable {P : Program} {o : Oper} {L : Nat → Prop} {E : Nat → SV} {σ : Nat → Option Blk}
theorem handS_spec {b : Bool} {x : SV} {i : Nat} (h : handS b x = some i) : (x = .own i ∧ b = true) ∨ x = .ptr i 0 := by
  unfold handS at h
  split at h
  · split at h
    · rename_i hb; injection h with h; subst h; exact .inl ⟨rfl, hb⟩
    · cases h
  · injection h with h; subst h; exact .inr rfl
  · cases h
theorem argS_none {b : Bool} {x : SV} (h : handS b x = none) : argS σ b x = lendS σ x := by
  cases x
  case own i => cases b <;> simp_all [handS, argS, lendS]
  case ptr i off => cases off <;> simp_all [handS, argS, lendS]
  all_goals rfl

/-- The callee's state at its begin. -/
theorem fix_rep {args : List SV} {ρ0 : Nat → Option (Option Nat)} {j : Nat} {r : Option Nat} (h : fixA args ρ0 j = some r) : ρ0 j = some r := by
  unfold fixA at h
  split at h
  · exact h
  · cases h
theorem call_begin {w0 w : World} {X : Nat → Prop} {D0 : Base} {D : Nat → Prop} {ρ : Nat → Option (Option Nat)} {a : Act} (hs : StD w0 X D0 L D ρ E σ a w) {xs : List Operand} {bs : List Bool} {args : List SV} {hand : Nat → Option Nat} {lent : List Nat} (hc : CallOf σ (xs.map (evO E)) bs args hand lent) :
    StD w (fun k => ∃ j i, hand j = some i ∧ ρ i = some (some k)) ⟨fun k => D k ∨ ∃ i T sz rows, i ∈ lent ∧ σ i = some (.row T sz rows) ∧ ρ i = some (some k), fixA args fun j => match hand j with | some i => ρ i | none => none⟩ (fun i => i < args.length)
      (fun k => D k ∨ ∃ i T sz rows, i ∈ lent ∧ σ i = some (.row T sz rows) ∧ ρ i = some (some k)) (fun j => match hand j with | some i => ρ i | none => none) (E0 args) (σ0 args) ⟨(xs.map a.eval).toArray, []⟩ w := by
  let D1 : Nat → Prop := fun k => D k ∨ ∃ i T sz rows, i ∈ lent ∧ σ i = some (.row T sz rows) ∧ ρ i = some (some k)
  have hal : args.length = xs.length := by rw [hc.eargs]; have := hc.len; simp at this ⊢; omega
  have hdd : ∀ k, D k → D1 k := fun k h => .inl h
  have live : ∀ j i, hand j = some i → ∃ b, σ i = some b ∧ b.live = true := by
    intro j i h
    rcases hc.ok j i h with ⟨T, sz, rows, hb, _⟩ | ⟨cs, hb, _, _⟩ <;> exact ⟨_, hb, rfl⟩
  have hX : ∀ j i k, hand j = some i → ρ i = some (some k) → ¬ D1 k ∧ Mine w0 X k ∧ k < w.heap.size := by
    intro j i k h hr
    obtain ⟨b, hb, hl⟩ := live j i h
    obtain ⟨h1, h2, h3⟩ := hs.apart i b k hb hl hr
    refine ⟨fun hD => ?_, h2, h3⟩
    rcases hD with hD | ⟨i', T, sz, rows, hi', hb', hr'⟩
    · exact h1 hD
    · have e := hs.inj i i' b _ k hb hb' hl rfl hr hr'
      exact hc.apart j i h (e ▸ hi')
  have hlt : ∀ j i, hand j = some i → j < args.length := by
    intro j i h
    rcases hc.ok j i h with ⟨_, _, _, _, h2⟩ | ⟨_, _, _, h2⟩ <;> exact (List.getElem?_eq_some_iff.1 h2).1
  have hop : ∀ (j : Nat) (y : SV), args[j]? = some y → ∃ b x, bs[j]? = some b ∧ xs[j]? = some x ∧ y = argS σ b (evO E x) ∧ hand j = handS b (evO E x) := by
    intro j y hy
    rw [hc.eargs, List.getElem?_zipWith] at hy
    have hh := hc.ehand j
    rw [List.getElem?_map] at hh
    cases hb : bs[j]? with
    | none => simp [hb] at hy
    | some b =>
      cases hx : xs[j]? with
      | none => simp [hb, hx] at hy
      | some x =>
        simp [hb, hx] at hy
        simp [hb, hx] at hh
        exact ⟨b, x, rfl, rfl, hy.symm, hh⟩
  refine ⟨fun t => ?_, rfl, ⟨rfl, rfl, rfl, Nat.le_refl _, fun _ _ _ => rfl⟩, fun k hk => ?_, fun _ h => h, fun _ h => .inl h, fun j r hf => fix_rep (args := args) (ρ0 := fun j => match hand j with | some i => ρ i | none => none) hf, fun j r hr => ?_, fun j b hb => ?_, fun j b g hb hl hr => ?_, fun j j' b b' g hb hb' hl hl' hr hr' => ?_⟩
  · -- slots
    by_cases ht : t < args.length
    · obtain ⟨b, x, hb, hx, hy, hh⟩ := hop t _ (List.getElem?_eq_getElem ht)
      have hv : (xs.map a.eval).toArray.getD t undef = a.eval x := by
        simp [Array.getD_eq_getD_getElem?, hx]
      rw [hv]
      have hrep := evO_rep hs x
      cases hhs : handS b (evO E x) with
      | none =>
        rw [argS_none hhs] at hy
        have hpl := lendS_plain σ (evO E x)
        have e0 : E0 args t = lendS σ (evO E x) := by
          unfold E0
          rw [List.getElem?_eq_getElem ht, hy]
          split
          · rename_i h; injection h with h; exact absurd h (hpl.1 _ _ _)
          · rename_i h; injection h with h; exact absurd h (hpl.2 _)
          · rename_i h; injection h with h; exact h.symm
          · rename_i h; cases h
        rw [e0]
        exact lendS_rep hs hdd (fun i hi T sz rows hb' g hg => .inr ⟨i, T, sz, rows, hc.elent t b _ hb (by simp [hx]) hhs i hi, hb', hg⟩) hrep
      | some i =>
        rw [hhs] at hh
        rcases hc.ok t i hh with ⟨T, sz, rows, hσ, hag⟩ | ⟨cs, hσ, hdat, hag⟩
        · have e0 : E0 args t = .own t := by unfold E0; rw [hag]
          have e1 : σ0 args t = some (.row T sz rows) := by unfold σ0; rw [hag]
          rw [e0]
          rcases handS_spec hhs with ⟨hx2, _⟩ | hx2
          · rw [hx2] at hrep
            simp only [SRep] at hrep ⊢
            obtain ⟨r, hr, hO, _⟩ := hrep
            refine ⟨r, by simp only [hh]; exact hr, fun T' sz' rows' hb' => ?_, fun rows' hb' => ?_⟩
            · rw [e1] at hb'
              injection hb' with hb'
              injection hb' with q1 q2 q3
              subst q1 q2 q3
              exact hO _ _ _ hσ
            · rw [e1] at hb'
              simp at hb'
          · rw [hx2] at hrep
            simp only [SRep] at hrep
            obtain ⟨g, hg, _⟩ := hrep
            -- a variable's address, and a row: it can't be
            exfalso
            rw [hx2] at hy
            have hy2 := hag
            rw [List.getElem?_eq_getElem ht, hy] at hy2
            simp [argS, hσ] at hy2
        · have e0 : E0 args t = .ptr t 0 := by unfold E0; rw [hag]
          rw [e0]
          rcases handS_spec hhs with ⟨hx2, hb2⟩ | hx2
          · exfalso
            rw [hx2] at hy
            have hy2 := hag
            rw [List.getElem?_eq_getElem ht, hy] at hy2
            simp [argS, hσ, hb2] at hy2
          · rw [hx2] at hrep
            simp only [SRep] at hrep ⊢
            obtain ⟨g, hg, hv⟩ := hrep
            exact ⟨g, by simp only [hh]; exact hg, hv⟩
    · have : E0 args t = .junk := by unfold E0; rw [List.getElem?_eq_none (by omega)]
      rw [this]
      simp [SRep]
  · rcases hk with hk | ⟨i, T, sz, rows, _, hb, hr⟩
    · exact hs.dlt k hk
    · exact (hs.apart i _ k hb rfl hr).2.2
  · cases hh : hand j with
    | none => simp [hh] at hr
    | some i => exact hlt j i hh
  · -- blocks
    unfold σ0 at hb
    have key : ∀ y, args[j]? = some y → (∃ T sz rows, y = .fresh T sz rows) ∨ (∃ cs, y = .pbox cs) → ∃ i, hand j = some i := by
      intro y hy hk
      obtain ⟨b', x, _, _, hy', hh⟩ := hop j y hy
      cases hhs : handS b' (evO E x) with
      | some i => exact ⟨i, by rw [hh, hhs]⟩
      | none =>
        rw [argS_none hhs] at hy'
        have hpl := lendS_plain σ (evO E x)
        rcases hk with ⟨T, sz, rows, hk⟩ | ⟨cs, hk⟩
        · exact absurd (hy'.symm.trans hk) (hpl.1 _ _ _)
        · exact absurd (hy'.symm.trans hk) (hpl.2 _)
    split at hb
    · rename_i T sz rows hag
      injection hb with hb
      subst hb
      obtain ⟨i, hh⟩ := key _ hag (.inl ⟨_, _, _, rfl⟩)
      rcases hc.ok j i hh with ⟨T', sz', rows', hσ, hag'⟩ | ⟨cs, hσ, _, hag'⟩
      · rw [hag] at hag'
        injection hag' with hag'
        injection hag' with q1 q2 q3
        subst q1 q2 q3
        obtain ⟨r, h5, h6⟩ := hs.blk i _ hσ
        refine ⟨r, by simp only [hh]; exact h5, ?_⟩
        cases r with
        | none => exact h6
        | some g =>
          obtain ⟨arr, cap, k1, k2, k3, k4, k5, k6⟩ := h6
          exact ⟨arr, cap, k1, k2, k3, k4, k5, k6.dmono hdd⟩
      · rw [hag] at hag'
        injection hag' with hag'
        cases hag'
    · rename_i cs' hag
      injection hb with hb
      subst hb
      obtain ⟨i, hh⟩ := key _ hag (.inr ⟨_, rfl⟩)
      rcases hc.ok j i hh with ⟨T', sz', rows', hσ, hag'⟩ | ⟨cs, hσ, hdat, hag'⟩
      · rw [hag] at hag'
        injection hag' with hag'
        cases hag'
      · rw [hag] at hag'
        injection hag' with hag'
        injection hag' with hag'
        subst hag'
        obtain ⟨g, arr, T, k1, k2, k3, k4⟩ := hs.blk i _ hσ
        exact ⟨g, arr, T, by simp only [hh]; exact k1, k2, lendLs_rep hs hdd cs _ (by rw [lentL_dats hdat]; intro i hi; cases hi) k3, k4⟩
    · cases hb
  · cases hh : hand j with
    | none => simp [hh] at hr
    | some i =>
      simp only [hh] at hr
      obtain ⟨h1, _, h3⟩ := hX j i g hh hr
      exact ⟨h1, .inr ⟨j, i, hh, hr⟩, h3⟩
  · cases hh : hand j with
    | none => simp [hh] at hr
    | some i =>
      cases hh' : hand j' with
      | none => simp [hh'] at hr'
      | some i' =>
        simp only [hh] at hr
        simp only [hh'] at hr'
        obtain ⟨b1, hb1, hl1⟩ := live j i hh
        obtain ⟨b2, hb2, hl2⟩ := live j' i' hh'
        have e := hs.inj i i' b1 b2 g hb1 hb2 hl1 hl2 hr hr'
        subst e
        exact hc.dist j j' i hh hh'
end
end Go.Proofs.Ytikfkipalifohaa.A
