/- The layer, part 15: saying less of a state; functions. -/
import Derived.Test.YtikfkipalifohaaA14
namespace Go.Proofs.Ytikfkipalifohaa.A
open Go Go.RowKit

abbrev Ren := List (Nat × Option Nat)
def lkF : Ren → Nat → Option (Option Nat)
  | [], _ => none
  | (k, m) :: f, i => if k = i then some m else lkF f i
/-- The number that stands behind number i. -/
def mapF (f : Ren) (nx i : Nat) : Option Nat :=
  match lkF f i with
  | some m => m
  | none => if i < nx then some i else none
mutual
def wkS (f : Ren) (nx : Nat) (S : Nat → Option Blk) : SV → SV → Prop
  | .junk, _ => True
  | .d p, .d q => p = q
  | .d p, .nils => p = .list []
  | .d p, .own j => (match S j with
    | some (.ice rows) => p = .list rows
    | _ => False)
  | .nils, .nils => True
  | .own i, .own j => mapF f nx i = some j
  | .own i, .nils => lkF f i = some none
  | .ptr i o, .ptr j o' => mapF f nx i = some j ∧ o = o'
  | .oelt i k o, .oelt j k' o' => mapF f nx i = some j ∧ k = k' ∧ o = o'
  | .elt cs, .elt cs' => cs = cs'
  | .agg cs, .agg cs' => wkL f nx S cs cs'
  | .tup cs, .tup cs' => wkL f nx S cs cs'
  | .sbox i n, .sbox j m => mapF f nx i = some j ∧ n = m
  | _, _ => False
def wkL (f : Ren) (nx : Nat) (S : Nat → Option Blk) : List SV → List SV → Prop
  | [], [] => True
  | c :: cs, d :: ds => wkS f nx S c d ∧ wkL f nx S cs ds
  | _, _ => False
end
def wkB (f : Ren) (nx : Nat) (S : Nat → Option Blk) (i : Nat) (b : Blk) : Prop :=
  match lkF f i with
  | some none => (match b with
    | .row _ _ rows => rows = []
    | .ice rows => rows = []
    | .box _ => False)
  | _ => match mapF f nx i with
    | none => False
    | some j => match b, S j with
      | .row T sz rows, some (.row T' sz' rows') => T = T' ∧ sz = sz' ∧ rows = rows'
      | .ice rows, some (.ice rows') => rows = rows'
      | .box cs, some (.box cs') => wkL f nx S cs cs'
      | _, _ => False
def wkE (f : Ren) (nx : Nat) (S : Nat → Option Blk) (E : Nat → SV) : Env → Prop
  | [] => True
  | (t, x) :: E2 => wkS f nx S x (E t) ∧ wkE f nx S E E2
def wkσ (f : Ren) (nx : Nat) (S : Nat → Option Blk) : Sto → Prop
  | [] => True
  | (i, some b) :: σ2 => wkB f nx S i b ∧ wkσ f nx S σ2
  | (_, none) :: σ2 => wkσ f nx S σ2
def mapK (f : Ren) (nx : Nat) : Sto → List Nat
  | [] => []
  | (i, some _) :: σ2 => (match mapF f nx i with | some j => j :: mapK f nx σ2 | none => mapK f nx σ2)
  | (_, none) :: σ2 => mapK f nx σ2
def wkOK (f : Ren) (nx : Nat) (fx : List Nat) (σ2 : Sto) : Bool := f.all (fun p => decide (p.1 < nx)) && fx.all (fun i => (lkF f i).isNone && decide (i < nx)) && distB (mapK f nx σ2)

section
variable {f : Ren} {nx : Nat} {S S2 : Nat → Option Blk} {w : World} {D : Nat → Prop} {ρ ρ2 : Nat → Option (Option Nat)}
mutual
theorem wkS_rep (h1 : ∀ i j, mapF f nx i = some j → ρ2 i = ρ j) (h2 : ∀ i, lkF f i = some none → ρ2 i = some none) (h3 : ∀ i b, S2 i = some b → wkB f nx S i b) : ∀ (x y : SV) (v : Value), wkS f nx S x y → SRep w D ρ S y v → SRep w D ρ2 S2 x v
  | .junk, y, v, _, _ => by simp [SRep]
  | .d p, .d q, v, h, hr => by simp only [wkS] at h; subst h; simpa only [SRep] using hr
  | .d p, .nils, v, h, hr => by simp only [wkS] at h; subst h; simp only [SRep] at hr ⊢; subst hr; simp [Rep]
  | .d p, .own j, v, h, hr => by
    simp only [wkS] at h
    simp only [SRep] at hr ⊢
    obtain ⟨r, _, _, hI⟩ := hr
    split at h
    · rename_i rows hb
      subst h
      exact hI _ hb
    · exact h.elim
  | .nils, .nils, v, _, hr => by simpa only [SRep] using hr
  | .own i, .own j, v, h, hr => by
    simp only [wkS] at h
    simp only [SRep] at hr ⊢
    obtain ⟨r, hr1, hO⟩ := hr
    have hnn : lkF f i ≠ some none := fun e => by simp [mapF, e] at h
    refine ⟨r, (h1 i j h).trans hr1, fun T sz rows hb => ?_, fun rows hb => ?_⟩
    · have := h3 i _ hb
      unfold wkB at this
      split at this
      · rename_i e; exact absurd e hnn
      · rw [h] at this
        simp only at this
        split at this
        · rename_i T' sz' rows' e1 e2
          injection e1 with q1 q2 q3
          subst q1 q2 q3
          obtain ⟨rfl, rfl, rfl⟩ := this
          exact hO.1 _ _ _ e2
        · rename_i e1 e2; cases e1
        · rename_i e1 e2; cases e1
        · exact this.elim
    · have := h3 i _ hb
      unfold wkB at this
      split at this
      · rename_i e; exact absurd e hnn
      · rw [h] at this
        simp only at this
        split at this
        · rename_i e1 e2; cases e1
        · rename_i rows0 rows' e1 e2
          injection e1 with q1
          subst q1
          subst this
          exact hO.2 _ e2
        · rename_i e1 e2; cases e1
        · exact this.elim
  | .own i, .nils, v, h, hr => by
    simp only [wkS] at h
    simp only [SRep] at hr ⊢
    subst hr
    refine ⟨none, h2 i h, fun T sz rows hb => .inl ⟨rfl, rfl⟩, fun rows hb => ?_⟩
    have := h3 i _ hb
    unfold wkB at this
    rw [h] at this
    simp only at this
    subst this
    simp [Rep]
  | .ptr i o, .ptr j o', v, h, hr => by
    simp only [wkS] at h
    obtain ⟨h, rfl⟩ := h
    simp only [SRep] at hr ⊢
    obtain ⟨g, hg, hv⟩ := hr
    exact ⟨g, (h1 i j h).trans hg, hv⟩
  | .oelt i k o, .oelt j k' o', v, h, hr => by
    simp only [wkS] at h
    obtain ⟨h, rfl, rfl⟩ := h
    simp only [SRep] at hr ⊢
    obtain ⟨g, hg, hv⟩ := hr
    have hnn : lkF f i ≠ some none := fun e => by simp [mapF, e] at h
    refine ⟨g, (h1 i j h).trans hg, fun T sz rows hb => ?_⟩
    have := h3 i _ hb
    unfold wkB at this
    split at this
    · rename_i e; exact absurd e hnn
    · rw [h] at this
      simp only at this
      split at this
      · rename_i T' sz' rows' e1 e2
        injection e1 with q1 q2 q3
        subst q1 q2 q3
        obtain ⟨rfl, rfl, rfl⟩ := this
        exact hv _ _ _ e2
      · rename_i e1 e2; cases e1
      · rename_i e1 e2; cases e1
      · exact this.elim
  | .elt cs, .elt cs', v, h, hr => by simp only [wkS] at h; subst h; simpa only [SRep] using hr
  | .agg cs, .agg cs', v, h, hr => by
    simp only [wkS] at h
    simp only [SRep] at hr ⊢
    obtain ⟨arr, hv, hr⟩ := hr
    exact ⟨arr, hv, wkL_rep h1 h2 h3 cs cs' _ h hr⟩
  | .tup cs, .tup cs', v, h, hr => by
    simp only [wkS] at h
    simp only [SRep] at hr ⊢
    obtain ⟨arr, hv, hr⟩ := hr
    exact ⟨arr, hv, wkL_rep h1 h2 h3 cs cs' _ h hr⟩
  | .sbox i n, .sbox j m, v, h, hr => by
    simp only [wkS] at h
    obtain ⟨h, rfl⟩ := h
    simp only [SRep] at hr ⊢
    obtain ⟨g, hg, hv⟩ := hr
    exact ⟨g, (h1 i j h).trans hg, hv⟩
  | .d _, .junk, _, h, _ | .d _, .agg _, _, h, _ | .d _, .tup _, _, h, _ | .d _, .ptr _ _, _, h, _ | .d _, .elt _, _, h, _ | .d _, .oelt _ _ _, _, h, _ | .d _, .view _ _ _, _, h, _ | .d _, .fresh _ _ _, _, h, _ | .d _, .pbox _, _, h, _ | .d _, .sbox _ _, _, h, _ => by simp [wkS] at h
  | .nils, .junk, _, h, _ | .nils, .d _, _, h, _ | .nils, .own _, _, h, _ | .nils, .agg _, _, h, _ | .nils, .tup _, _, h, _ | .nils, .ptr _ _, _, h, _ | .nils, .elt _, _, h, _ | .nils, .oelt _ _ _, _, h, _ | .nils, .view _ _ _, _, h, _ | .nils, .fresh _ _ _, _, h, _ | .nils, .pbox _, _, h, _ | .nils, .sbox _ _, _, h, _ => by simp [wkS] at h
  | .own _, .junk, _, h, _ | .own _, .d _, _, h, _ | .own _, .agg _, _, h, _ | .own _, .tup _, _, h, _ | .own _, .ptr _ _, _, h, _ | .own _, .elt _, _, h, _ | .own _, .oelt _ _ _, _, h, _ | .own _, .view _ _ _, _, h, _ | .own _, .fresh _ _ _, _, h, _ | .own _, .pbox _, _, h, _ | .own _, .sbox _ _, _, h, _ => by simp [wkS] at h
  | .ptr _ _, .junk, _, h, _ | .ptr _ _, .d _, _, h, _ | .ptr _ _, .nils, _, h, _ | .ptr _ _, .agg _, _, h, _ | .ptr _ _, .tup _, _, h, _ | .ptr _ _, .own _, _, h, _ | .ptr _ _, .elt _, _, h, _ | .ptr _ _, .oelt _ _ _, _, h, _ | .ptr _ _, .view _ _ _, _, h, _ | .ptr _ _, .fresh _ _ _, _, h, _ | .ptr _ _, .pbox _, _, h, _ | .ptr _ _, .sbox _ _, _, h, _ => by simp [wkS] at h
  | .oelt _ _ _, .junk, _, h, _ | .oelt _ _ _, .d _, _, h, _ | .oelt _ _ _, .nils, _, h, _ | .oelt _ _ _, .agg _, _, h, _ | .oelt _ _ _, .tup _, _, h, _ | .oelt _ _ _, .own _, _, h, _ | .oelt _ _ _, .elt _, _, h, _ | .oelt _ _ _, .ptr _ _, _, h, _ | .oelt _ _ _, .view _ _ _, _, h, _ | .oelt _ _ _, .fresh _ _ _, _, h, _ | .oelt _ _ _, .pbox _, _, h, _ | .oelt _ _ _, .sbox _ _, _, h, _ => by simp [wkS] at h
  | .elt _, .junk, _, h, _ | .elt _, .d _, _, h, _ | .elt _, .nils, _, h, _ | .elt _, .agg _, _, h, _ | .elt _, .tup _, _, h, _ | .elt _, .own _, _, h, _ | .elt _, .oelt _ _ _, _, h, _ | .elt _, .ptr _ _, _, h, _ | .elt _, .view _ _ _, _, h, _ | .elt _, .fresh _ _ _, _, h, _ | .elt _, .pbox _, _, h, _ | .elt _, .sbox _ _, _, h, _ => by simp [wkS] at h
  | .agg _, .junk, _, h, _ | .agg _, .d _, _, h, _ | .agg _, .nils, _, h, _ | .agg _, .elt _, _, h, _ | .agg _, .tup _, _, h, _ | .agg _, .own _, _, h, _ | .agg _, .oelt _ _ _, _, h, _ | .agg _, .ptr _ _, _, h, _ | .agg _, .view _ _ _, _, h, _ | .agg _, .fresh _ _ _, _, h, _ | .agg _, .pbox _, _, h, _ | .agg _, .sbox _ _, _, h, _ => by simp [wkS] at h
  | .tup _, .junk, _, h, _ | .tup _, .d _, _, h, _ | .tup _, .nils, _, h, _ | .tup _, .elt _, _, h, _ | .tup _, .agg _, _, h, _ | .tup _, .own _, _, h, _ | .tup _, .oelt _ _ _, _, h, _ | .tup _, .ptr _ _, _, h, _ | .tup _, .view _ _ _, _, h, _ | .tup _, .fresh _ _ _, _, h, _ | .tup _, .pbox _, _, h, _ | .tup _, .sbox _ _, _, h, _ => by simp [wkS] at h
  | .view _ _ _, y, _, h, _ => by cases y <;> simp [wkS] at h
  | .fresh _ _ _, y, _, h, _ => by cases y <;> simp [wkS] at h
  | .pbox _, y, _, h, _ => by cases y <;> simp [wkS] at h
  | .sbox _ _, .junk, _, h, _ | .sbox _ _, .d _, _, h, _ | .sbox _ _, .nils, _, h, _ | .sbox _ _, .own _, _, h, _ | .sbox _ _, .agg _, _, h, _ | .sbox _ _, .tup _, _, h, _ | .sbox _ _, .ptr _ _, _, h, _ | .sbox _ _, .elt _, _, h, _ | .sbox _ _, .oelt _ _ _, _, h, _ | .sbox _ _, .view _ _ _, _, h, _ | .sbox _ _, .fresh _ _ _, _, h, _ | .sbox _ _, .pbox _, _, h, _ => by simp [wkS] at h
theorem wkL_rep (h1 : ∀ i j, mapF f nx i = some j → ρ2 i = ρ j) (h2 : ∀ i, lkF f i = some none → ρ2 i = some none) (h3 : ∀ i b, S2 i = some b → wkB f nx S i b) : ∀ (xs ys : List SV) (vs : List Value), wkL f nx S xs ys → SReps w D ρ S ys vs → SReps w D ρ2 S2 xs vs
  | [], [], vs, _, hr => by simpa only [SReps] using hr
  | c :: cs, d :: ds, vs, h, hr => by
    simp only [wkL] at h
    simp only [SReps] at hr ⊢
    obtain ⟨v, vs', e, k1, k2⟩ := hr
    exact ⟨v, vs', e, wkS_rep h1 h2 h3 c d v h.1 k1, wkL_rep h1 h2 h3 cs ds vs' h.2 k2⟩
  | [], _ :: _, _, h, _ => by simp [wkL] at h
  | _ :: _, [], _, h, _ => by simp [wkL] at h
end
theorem wkE_at {E : Nat → SV} : ∀ {E2 : Env}, wkE f nx S E E2 → ∀ t, wkS f nx S (lk E2 t) (E t)
  | [], _, t => by simp [lk, wkS]
  | (t0, x) :: E2, h, t => by
    simp only [wkE] at h
    simp only [lk]
    split
    · rename_i e; subst e; exact h.1
    · exact wkE_at h.2 t
theorem wkσ_at : ∀ {σ2 : Sto}, wkσ f nx S σ2 → ∀ i b, lkB σ2 i = some b → wkB f nx S i b
  | [], _, i, b, h => by simp [lkB] at h
  | (i0, some b0) :: σ2, h, i, b, hb => by
    simp only [wkσ] at h
    simp only [lkB] at hb
    split at hb
    · rename_i e; subst e; injection hb with hb; subst hb; exact h.1
    · exact wkσ_at h.2 i b hb
  | (i0, none) :: σ2, h, i, b, hb => by
    simp only [wkσ] at h
    simp only [lkB] at hb
    split at hb
    · cases hb
    · exact wkσ_at h i b hb
theorem mapK_mem : ∀ {σ2 : Sto} {i j : Nat} {b : Blk}, lkB σ2 i = some b → mapF f nx i = some j → j ∈ mapK f nx σ2
  | [], i, j, b, h, _ => by simp [lkB] at h
  | (i0, some b0) :: σ2, i, j, b, h, hm => by
    simp only [lkB] at h
    simp only [mapK]
    split at h
    · rename_i e; subst e; rw [hm]; exact List.mem_cons_self
    · have := mapK_mem h hm
      split
      · exact List.mem_cons_of_mem _ this
      · exact this
  | (i0, none) :: σ2, i, j, b, h, hm => by
    simp only [lkB] at h
    simp only [mapK]
    split at h
    · cases h
    · exact mapK_mem h hm
theorem mapK_inj : ∀ {σ2 : Sto} {i i' j : Nat} {b b' : Blk}, distB (mapK f nx σ2) = true → lkB σ2 i = some b → lkB σ2 i' = some b' → mapF f nx i = some j → mapF f nx i' = some j → i = i'
  | [], i, i', j, b, b', _, h, _, _, _ => by simp [lkB] at h
  | (i0, some b0) :: σ2, i, i', j, b, b', hd, h, h', hm, hm' => by
    simp only [lkB] at h h'
    by_cases e : i0 = i
    · by_cases e' : i0 = i'
      · exact e.symm.trans e'
      · subst e
        rw [if_neg e'] at h'
        simp only [mapK, hm, distB, Bool.and_eq_true, Bool.not_eq_true', List.contains_eq_mem, decide_eq_false_iff_not] at hd
        exact absurd (mapK_mem h' hm') hd.1
    · by_cases e' : i0 = i'
      · subst e'
        rw [if_neg e] at h
        simp only [mapK, hm', distB, Bool.and_eq_true, Bool.not_eq_true', List.contains_eq_mem, decide_eq_false_iff_not] at hd
        exact absurd (mapK_mem h hm) hd.1
      · rw [if_neg e] at h
        rw [if_neg e'] at h'
        refine mapK_inj ?_ h h' hm hm'
        simp only [mapK] at hd
        split at hd
        · simp only [distB, Bool.and_eq_true] at hd; exact hd.2
        · exact hd
  | (i0, none) :: σ2, i, i', j, b, b', hd, h, h', hm, hm' => by
    simp only [lkB] at h h'
    split at h
    · cases h
    · split at h'
      · cases h'
      · exact mapK_inj (by simpa only [mapK] using hd) h h' hm hm'
theorem lkF_lt : ∀ {f : Ren} {i : Nat} {m : Option Nat}, f.all (fun p => decide (p.1 < nx)) = true → lkF f i = some m → i < nx
  | [], i, m, _, h => by simp [lkF] at h
  | (k, m0) :: f, i, m, ha, h => by
    simp only [List.all_cons, Bool.and_eq_true, decide_eq_true_eq] at ha
    simp only [lkF] at h
    split at h
    · rename_i e; rw [← e]; exact ha.1
    · exact lkF_lt ha.2 h
end

section
variable {fx : List Nat} {E E2 : Env} {σ σ2 : Sto} {nx nx2 : Nat}
/-- Slots are forgotten, numbers renamed. -/
theorem wk_ren (f : Ren) (h1 : wkE f nx2 (lkB σ) (lk E) E2) (h2 : wkσ f nx2 (lkB σ) σ2) (h3 : wkOK f nx2 fx σ2 = true) : WK fx E σ nx E2 σ2 nx2 := by
  intro w0 X D0 a w hf ⟨D, ρ, hs⟩
  simp only [wkOK, Bool.and_eq_true] at h3
  obtain ⟨⟨hk, hfx⟩, hdist⟩ := h3
  let ρ2 : Nat → Option (Option Nat) := fun i => if lkF f i = some none then some none else match mapF f nx2 i with | some j => ρ j | none => none
  have r1 : ∀ i j, mapF f nx2 i = some j → ρ2 i = ρ j := by
    intro i j h
    have hnn : lkF f i ≠ some none := fun e => by simp [mapF, e] at h
    simp only [ρ2, if_neg hnn, h]
  have r2 : ∀ i, lkF f i = some none → ρ2 i = some none := fun i h => by simp only [ρ2, if_pos h]
  have r3 := fun i b => wkσ_at h2 i b
  have live : ∀ i b g, lkB σ2 i = some b → b.live = true → ρ2 i = some (some g) → ∃ j b', mapF f nx2 i = some j ∧ ρ j = some (some g) ∧ lkB σ j = some b' ∧ b'.live = true := by
    intro i b g hb hl hr
    have hnn : lkF f i ≠ some none := fun e => by rw [r2 i e] at hr; simp at hr
    have := r3 i b hb
    unfold wkB at this
    split at this
    · rename_i e; exact absurd e hnn
    · split at this
      · exact this.elim
      · rename_i j hj
        rw [r1 i j hj] at hr
        split at this
        · rename_i e; exact ⟨j, _, hj, hr, e, rfl⟩
        · cases hl
        · rename_i e; exact ⟨j, _, hj, hr, e, rfl⟩
        · exact this.elim
  refine ⟨D, ρ2, ⟨fun t => wkS_rep r1 r2 r3 _ _ _ (wkE_at h1 t) (hs.slots t), hs.ndef, hs.kept, hs.dlt, hs.dold, hs.dnew, fun i r hr => ?_, fun i r hr => ?_, fun i b hb => ?_, fun i b g hb hl hr => ?_, fun i i' b b' g hb hb' hl hl' hr hr' => ?_⟩⟩
  · have hm := hf i (by rw [hr]; simp)
    have := List.all_eq_true.1 hfx i hm
    simp only [Bool.and_eq_true, decide_eq_true_eq, Option.isNone_iff_eq_none] at this
    rw [r1 i i (by simp [mapF, this.1, this.2])]
    exact hs.fix i r hr
  · cases hl : lkF f i with
    | some m => exact lkF_lt hk hl
    | none =>
      simp only [ρ2, hl, mapF] at hr
      by_cases hlt : i < nx2
      · exact hlt
      · simp [hlt] at hr
  · have := r3 i b hb
    unfold wkB at this
    split at this
    · rename_i e
      cases b with
      | box cs => exact this.elim
      | row T sz rows => exact ⟨none, r2 i e, this⟩
      | ice rows => exact ⟨none, r2 i e⟩
    · split at this
      · exact this.elim
      · rename_i j hj
        split at this
        · rename_i e
          obtain ⟨rfl, rfl, rfl⟩ := this
          obtain ⟨r, k1, k2⟩ := hs.blk j _ e
          exact ⟨r, (r1 i j hj).trans k1, k2⟩
        · rename_i e
          obtain ⟨r, k1⟩ := hs.blk j _ e
          exact ⟨r, (r1 i j hj).trans k1⟩
        · rename_i e
          obtain ⟨g, arr, T, k1, k2, k3, k4⟩ := hs.blk j _ e
          exact ⟨g, arr, T, (r1 i j hj).trans k1, k2, wkL_rep r1 r2 r3 _ _ _ this k3, k4⟩
        · exact this.elim
  · obtain ⟨j, b', _, hr', hb', hl'⟩ := live i b g hb hl hr
    exact hs.apart j b' g hb' hl' hr'
  · obtain ⟨j, c, k1, k2, k3, k4⟩ := live i b g hb hl hr
    obtain ⟨j', c', k1', k2', k3', k4'⟩ := live i' b' g hb' hl' hr'
    have := hs.inj j j' c c' g k3 k3' k4 k4' k2 k2'
    subst this
    exact mapK_inj hdist hb hb' k1 k1'
theorem wk_freeze {i : Nat} {T : TypeId} {sz : Nat} {rows : List (List PV)} (hb : lkB σ i = some (.row T sz rows)) : WK fx E σ nx E (putS σ i (some (.ice rows))) nx := by
  intro w0 X D0 a w _ hs
  rw [lkB_putS]
  exact hs.freeze hb
end

/-! ### Functions -/
def resE (P : Program) (S : Nat → Option Blk) (E : Nat → SV) : ResultVar → OpR
  | .tmp t => valR true (E t) []
  | .cell a t => match E a with
    | .ptr i off => loadE (ti P t) S (.ptr i off)
    | _ => badR
def resS : List SV → SV
  | [x] => x
  | xs => .tup xs
def E0l : List SV → Nat → Env
  | [], _ => []
  | x :: xs, k => (k, match x with | .fresh _ _ _ => .own k | .pbox _ => .ptr k 0 | x => x) :: E0l xs (k + 1)
def σ0l : List SV → Nat → Sto
  | [], _ => []
  | .fresh T sz rows :: xs, k => (k, some (.row T sz rows)) :: σ0l xs (k + 1)
  | .pbox cs :: xs, k => (k, some (.box cs)) :: σ0l xs (k + 1)
  | _ :: xs, k => σ0l xs (k + 1)
def fxl : List SV → Nat → List Nat
  | [], _ => []
  | .pbox _ :: xs, k => k :: fxl xs (k + 1)
  | _ :: xs, k => fxl xs (k + 1)
/-- What is to be shown where the function's code ends. -/
structure endQ (P : Program) (rv : List ResultVar) (fx : List Nat) (r : SV) (R : Sto) (e : Exit) (E : Env) (σ : Sto) (nx : Nat) : Prop where
  exit : e = .normal ∨ e = .ret
  ok : (rv.all fun v => (resE P (lkB σ) (lk E) v).ok) = true
  wk : ∃ nx2, WK fx [(0, resS (rv.map fun v => (resE P (lkB σ) (lk E) v).x))] σ nx [(0, r)] R nx2

section
theorem lk_E0l : ∀ (args : List SV) (k t : Nat), lk (E0l args k) t = if k ≤ t then E0 args (t - k) |> fun x => (match args[t - k]? with | some (.fresh _ _ _) => .own t | some (.pbox _) => .ptr t 0 | _ => x) else .junk
  | [], k, t => by simp [E0l, lk, E0]
  | x :: xs, k, t => by
    simp only [E0l, lk]
    by_cases h : k = t
    · subst h
      simp only [if_true, Nat.le_refl, Nat.sub_self, List.getElem?_cons_zero, E0]
      cases x <;> rfl
    · rw [if_neg h, lk_E0l xs (k + 1) t]
      by_cases hk : k + 1 ≤ t
      · rw [if_pos hk, if_pos (by omega)]
        have e : t - k = (t - (k + 1)) + 1 := by omega
        simp only [e, E0, List.getElem?_cons_succ]
        cases hx : xs[t - (k + 1)]? with
        | none => rfl
        | some y => cases y <;> rfl
      · rw [if_neg hk, if_neg (by omega)]
theorem E0_eq (args : List SV) : lk (E0l args 0) = E0 args := by
  funext t
  rw [lk_E0l]
  simp only [Nat.zero_le, if_true, Nat.sub_zero, E0]
  cases hx : args[t]? with
  | none => rfl
  | some y => cases y <;> rfl
theorem lkB_σ0l : ∀ (args : List SV) (k i : Nat), lkB (σ0l args k) i = if k ≤ i then σ0 args (i - k) else none
  | [], k, i => by simp [σ0l, lkB, σ0]
  | x :: xs, k, i => by
    have ih := lkB_σ0l xs (k + 1) i
    have key : ∀ b, lkB ((k, b) :: σ0l xs (k + 1)) i = if k = i then b else lkB (σ0l xs (k + 1)) i := fun b => rfl
    by_cases h : k = i
    · subst h
      have hn : lkB (σ0l xs (k + 1)) k = none := by rw [lkB_σ0l xs (k + 1) k, if_neg (by omega)]
      simp only [Nat.le_refl, if_true, Nat.sub_self, σ0, List.getElem?_cons_zero]
      cases x <;> simp only [σ0l] <;> first | exact hn | (rw [key]; simp)
    · have : lkB (σ0l (x :: xs) k) i = lkB (σ0l xs (k + 1)) i := by
        cases x <;> simp only [σ0l] <;> (try rw [key, if_neg h])
      rw [this, ih]
      by_cases hk : k + 1 ≤ i
      · rw [if_pos hk, if_pos (by omega)]
        have e : i - k = (i - (k + 1)) + 1 := by omega
        simp only [e, σ0, List.getElem?_cons_succ]
      · rw [if_neg hk, if_neg (by omega)]
theorem σ0_eq (args : List SV) : lkB (σ0l args 0) = σ0 args := by
  funext t
  rw [lkB_σ0l]
  simp
theorem fxl_spec : ∀ (args : List SV) (k i : Nat) (cs : List SV), args[i]? = some (.pbox cs) → k + i ∈ fxl args k
  | [], k, i, cs, h => by simp at h
  | x :: xs, k, 0, cs, h => by
    simp at h
    subst h
    simp [fxl]
  | x :: xs, k, i + 1, cs, h => by
    have := fxl_spec xs (k + 1) i cs (by simpa using h)
    rw [show k + 1 + i = k + (i + 1) by omega] at this
    cases x <;> simp only [fxl] <;> first | exact this | exact List.mem_cons_of_mem _ this
variable {P : Program}
theorem resE_run {w0 w : World} {X : Nat → Prop} {D0 : Base} {L D : Nat → Prop} {ρ : Nat → Option (Option Nat)} {E : Nat → SV} {σ : Nat → Option Blk} {a : Act} (hs : StD w0 X D0 L D ρ E σ a w) {v : ResultVar} (hok : (resE P σ E v).ok = true) :
    ∃ u, (match v with | .tmp t => (pure (a.tmps.getD t undef) : Sem Value) | .cell p t => (do loadVar t (← asAddr (a.tmps.getD p undef)))).run P w = .ok u w ∧ SRep w D ρ σ (resE P σ E v).x u := by
  cases v with
  | tmp t => exact ⟨_, rfl, by simpa only [resE, valR] using hs.slots t⟩
  | cell p t =>
    simp only [resE] at hok ⊢
    split at hok
    · rename_i i off he
      have hx : evO E (.tmp p) = .ptr i off := he
      unfold loadE at hok ⊢
      simp only at hok ⊢
      split at hok
      · rename_i cs hb
        obtain ⟨g, arr, T, hg, hv, hh, hr, _⟩ := eval_ptr hs hx hb
        have hv' : a.tmps.getD p undef = .pointer (some ⟨g, off, none⟩) := by simpa [Act.eval] using hv
        have hlen := hr.length
        split at hok
        · rename_i hk
          simp only [valR, Bool.and_eq_true, decide_eq_true_eq] at hok
          have hc : ∀ j v, ((arr.toList.drop off).take (ti P t).size)[j]? = some v → w.cell? ((⟨g, off, none⟩ : Addr).add j) = some v := by
            intro j v hj
            rw [List.getElem?_take] at hj
            split at hj
            · rw [addr_add rfl, cell_at hh]
              simpa [List.getElem?_drop] using hj
            · cases hj
          refine ⟨.agg ((arr.toList.drop off).take (ti P t).size).toArray, by simp [hv', asAddr, run_loadVar_agg hok.1 hk w _ ((arr.toList.drop off).take (ti P t).size) (by simp at hlen ⊢; omega) hc], ?_⟩
          rw [if_pos hk]
          simp only [valR, SRep]
          refine ⟨_, rfl, SReps.of_get (by simp at hlen ⊢; omega) fun j y v h1 h2 => ?_⟩
          rw [List.getElem?_take] at h1
          simp only [List.getElem?_take] at h2
          split at h1
          · rw [List.getElem?_drop] at h1
            rw [if_pos (by assumption), List.getElem?_drop] at h2
            obtain ⟨v', h3, h4⟩ := hr.get _ _ h1
            rw [h3] at h2
            injection h2 with h2
            subst h2
            exact h4
          · cases h1
        · rename_i hk
          simp only [valR, Bool.and_eq_true, decide_eq_true_eq] at hok
          obtain ⟨v, hv1, hv2⟩ := hr.get off (cs.getD off .junk) (by simp [List.getD, List.getElem?_eq_getElem hok.2])
          have hc : w.cell? ⟨g, off, none⟩ = some v := by rw [cell_at hh]; simpa using hv1
          refine ⟨v, by simp [hv', asAddr, run_loadVar_one hok.1 (by simpa using hk) w _ v hc], ?_⟩
          rw [if_neg hk]
          exact hv2
      · cases hok
    · cases hok
theorem resL_run {w0 w : World} {X : Nat → Prop} {D0 : Base} {L D : Nat → Prop} {ρ : Nat → Option (Option Nat)} {E : Nat → SV} {σ : Nat → Option Blk} {a : Act} (hs : StD w0 X D0 L D ρ E σ a w) (g : ResultVar → Sem Value)
    (hg : ∀ v, g v = match v with | .tmp t => (pure (a.tmps.getD t undef) : Sem Value) | .cell p t => (do loadVar t (← asAddr (a.tmps.getD p undef)))) :
    ∀ (rv : List ResultVar), (rv.all fun v => (resE P σ E v).ok) = true → ∃ us, (rv.mapM g).run P w = .ok us w ∧ SReps w D ρ σ (rv.map fun v => (resE P σ E v).x) us
  | [], _ => ⟨[], by simp, by simp [SReps]⟩
  | v :: rv, h => by
    simp only [List.all_cons, Bool.and_eq_true] at h
    obtain ⟨u, h1, h2⟩ := resE_run hs h.1
    obtain ⟨us, h3, h4⟩ := resL_run hs g hg rv h.2
    refine ⟨u :: us, ?_, ?_⟩
    · rw [List.mapM_cons, hg]
      simp only [Sem.run_bind, h1, h3, Result.andThen_ok, Sem.run_pure]
    · simp only [List.map_cons, SReps]
      exact ⟨u, us, rfl, h2, h4⟩
/-- A function's contract, from its code. -/
theorem fn_ok {f : FuncId} {fn : Func} {c : Code} {args : List SV} {r : SV} {R : Sto} {rv : List ResultVar} {n : Nat} (hf : P.funcs[f]? = some fn) (hb : fn.body = some c) (hname : (fn.name == "runtime.NumGoroutine") = false) (hmix : P.follows .mixedOrders = true) (hn : fn.ntmps = n) (hrv : fn.results.toList = rv)
    (hck : codeOK n c = true) (hlen : decide (args.length ≤ n) = true) (h : PW P n (fxl args 0) c (endQ P rv (fxl args 0) r R) (E0l args 0) (σ0l args 0) args.length) : FnOK P f args r R := by
  intro w d0 X ρ0 vs hvs hs
  have hlen' := of_decide_eq_true hlen
  subst hn hrv
  have hrun : (callFunc f vs).run P w = .ok (.enter f vs) w := by
    have hname' : ¬ fn.name = "runtime.NumGoroutine" := by simpa using hname
    simp [callFunc, run_program, hf, hname', hb]
  rw [hrun]
  simp only [UponCall]
  refine calls_of_wp hf hb ?_
  have hsz : (vs ++ Array.replicate (fn.ntmps - vs.size) undef).size = fn.ntmps := by simp; omega
  refine wp_mono (h.run hmix hck w X ⟨d0, fixA args ρ0⟩ _ w (fun i hi => ?_) hsz ⟨d0, ρ0, ?_⟩) ?_
  · simp only [fixA] at hi
    split at hi
    · rename_i cs hcs
      simpa using fxl_spec args 0 i cs hcs
    · exact absurd rfl hi
  · rw [E0_eq, σ0_eq]
    refine ⟨fun t => ?_, rfl, hs.kept, hs.dlt, hs.dold, hs.dnew, hs.fix, hs.given, hs.blk, hs.apart, hs.inj⟩
    have := hs.slots t
    by_cases ht : t < vs.size
    · have e : (vs ++ Array.replicate (fn.ntmps - vs.size) undef).getD t undef = vs.getD t undef := by
        simp [Array.getD_eq_getD_getElem?, Array.getElem?_append, ht]
      simp only [e]
      exact this
    · have e : E0 args t = .junk := by
        unfold E0
        rw [List.getElem?_eq_none (by omega)]
      rw [e]
      simp [SRep]
  · rintro e a' w' ⟨E', σ', nx', hsz', ⟨D, ρ, hs'⟩, he, hok, nx2, hwk⟩
    have fin : a'.defers = [] ∧ ∃ v, (results fn a'.tmps).run P w' = .ok v w' ∧ ∃ u, Ending.returned v = .returned u ∧ ∃ D ρ, StD w X ⟨d0, fixA args ρ0⟩ (fun _ => True) D ρ (Er r) (lkB R) ⟨#[u], []⟩ w' := by
      refine ⟨hs'.ndef, ?_⟩
      obtain ⟨us, hrun, hus⟩ := resL_run hs' _ (fun v => rfl) fn.results.toList hok
      have hlen2 := hus.length
      obtain ⟨v, hv1, hv2⟩ : ∃ v, (results fn a'.tmps).run P w' = .ok v w' ∧ SRep w' D ρ (lkB σ') (resS (fn.results.toList.map fun v => (resE P (lkB σ') (lk E') v).x)) v := by
        refine ⟨if h : us.toArray.size = 1 then us.toArray[0] else .tuple us.toArray, ?_, ?_⟩
        · unfold results
          rw [← Array.toArray_toList (xs := fn.results), List.mapM_toArray]
          simp only [Sem.run_bind, Sem.run_map]
          erw [hrun]
          simp
        · generalize (fn.results.toList.map fun v => (resE P (lkB σ') (lk E') v).x) = xs at hus hlen2
          match xs, us, hus, hlen2 with
          | [], [], _, _ => simp [resS, SRep, SReps]
          | [x], [u], hus, _ =>
            simp only [SReps] at hus
            obtain ⟨v, vs', e, h1, h2⟩ := hus
            injection e with e1 e2
            subst e1
            simpa [resS] using h1
          | x :: y :: xs, u :: v :: us, hus, _ =>
            simp only [resS, SRep]
            exact ⟨(u :: v :: us).toArray, by simp, by simpa using hus⟩
          | [], _ :: _, _, h => simp at h
          | _ :: _, [], _, h => simp at h
          | [_], _ :: _ :: _, _, h => simp at h
          | _ :: _ :: _, [_], _, h => simp at h
      refine ⟨v, hv1, v, rfl, ?_⟩
      have hst : St w X ⟨d0, fixA args ρ0⟩ (fun i => i < nx') (lk [(0, resS (fn.results.toList.map fun v => (resE P (lkB σ') (lk E') v).x))]) (lkB σ') ⟨#[v], []⟩ w' := by
        refine ⟨D, ρ, ⟨fun t => ?_, rfl, hs'.kept, hs'.dlt, hs'.dold, hs'.dnew, hs'.fix, hs'.given, hs'.blk, hs'.apart, hs'.inj⟩⟩
        simp only [lk]
        by_cases ht : 0 = t
        · subst ht
          simpa using hv2
        · rw [if_neg ht]
          simp [SRep]
      obtain ⟨D2, ρ2, h2⟩ := hwk w X _ _ w' (fun i hi => by
        simp only [fixA] at hi
        split at hi
        · rename_i cs hcs
          simpa using fxl_spec args 0 i cs hcs
        · exact absurd rfl hi) hst
      refine ⟨D2, ρ2, ?_⟩
      have e : lk [(0, r)] = Er r := by
        funext t
        simp only [lk, Er]
        by_cases ht : t = 0
        · simp [ht]
        · simp [ht, show ¬ 0 = t from fun e => ht e.symm]
      rw [← e]
      exact h2.more fun _ _ => trivial
    rcases he with rfl | rfl
    · exact fin
    · exact fin
end
end Go.Proofs.Ytikfkipalifohaa.A
