/- The layer, part 8: behind a call. -/
import Derived.Test.YtikfkipalifohaaA7
namespace Go.Proofs.Ytikfkipalifohaa.A
open Go Go.RowKit

/-- The caller's blocks behind a call: N: the new numbers (from nx on). -/
structure AfterOf (L : Nat → Prop) (σ σ' : Nat → Option Blk) (args : List SV) (hand : Nat → Option Nat) (lent : List Nat) (S : Sto) (N : List Nat) (nx : Nat) : Prop where
  newL : ∀ q ∈ N, ¬ L (nx + q)
  new : ∀ q ∈ N, σ' (nx + q) = lkB S q
  newB : ∀ q ∈ N, ∃ T sz rows, lkB S q = some (.row T sz rows)
  give : ∀ j i T sz rows, hand j = some i → args[j]? = some (.fresh T sz rows) → σ' i = none
  refB : ∀ j i cs, hand j = some i → args[j]? = some (.pbox cs) → ∃ out, lkB S j = some (.box out) ∧ out.all isDat = true ∧ σ' i = some (.box out)
  lend : ∀ i, i ∈ lent → σ' i = frz (σ i)
  old : ∀ i, (∀ q ∈ N, i ≠ nx + q) → (∀ j, hand j ≠ some i) → i ∉ lent → σ' i = σ i

section
variable {L : Nat → Prop} {E : Nat → SV} {σ : Nat → Option Blk}
theorem call_end {w0 w w' : World} {X : Nat → Prop} {D0 : Base} {D : Nat → Prop} {ρ : Nat → Option (Option Nat)} {a : Act} (hs : StD w0 X D0 L D ρ E σ a w) {xs : List Operand} {bs : List Bool} {args : List SV} {hand : Nat → Option Nat} {lent : List Nat} (hc : CallOf σ (xs.map (evO E)) bs args hand lent)
    {r : SV} {S : Sto} {N : List Nat} {nx : Nat} {σ' : Nat → Option Blk} (ha : AfterOf L σ σ' args hand lent S N nx) (hrN : inS N r = true)
    {D2 : Nat → Prop} {ρ2 : Nat → Option (Option Nat)} {v : Value}
    (he : StD w (fun k => ∃ j i, hand j = some i ∧ ρ i = some (some k)) ⟨fun k => D k ∨ ∃ i T sz rows, i ∈ lent ∧ σ i = some (.row T sz rows) ∧ ρ i = some (some k), fixA args fun j => match hand j with | some i => ρ i | none => none⟩ (fun _ => True) D2 ρ2 (Er r) (lkB S) ⟨#[v], []⟩ w') :
    ∃ ρ', StD w0 X D0 (fun i => L i ∨ i ∈ N.map (nx + ·)) D2 ρ' E σ' a w' ∧ SRep w' D2 ρ' σ' (shS nx r) v := by
  let D1 : Nat → Prop := fun k => D k ∨ ∃ i T sz rows, i ∈ lent ∧ σ i = some (.row T sz rows) ∧ ρ i = some (some k)
  let X1 : Nat → Prop := fun k => ∃ j i, hand j = some i ∧ ρ i = some (some k)
  have hρ : ∀ j i q, hand j = some i → (∃ out, σ' i = some (.box out)) → ρ i = some q → ρ2 j = some q := by
    rintro j i q h ⟨out, ho⟩ hr
    rcases hc.ok j i h with ⟨T, sz, rows, _, hag⟩ | ⟨cs, _, _, hag⟩
    · rw [ha.give j i T sz rows h hag] at ho; cases ho
    · exact he.fix j q (by simp only [fixA, hag, h]; exact hr)
  have live : ∀ j i, hand j = some i → ∃ b, σ i = some b ∧ b.live = true := by
    intro j i h
    rcases hc.ok j i h with ⟨T, sz, rows, hb, _⟩ | ⟨cs, hb, _, _⟩ <;> exact ⟨_, hb, rfl⟩
  have hXs : ∀ k, X1 k → ¬ D1 k ∧ ¬ D k ∧ Mine w0 X k ∧ k < w.heap.size := by
    rintro k ⟨j, i, h, hr⟩
    obtain ⟨b, hb, hl⟩ := live j i h
    obtain ⟨h1, h2, h3⟩ := hs.apart i b k hb hl hr
    refine ⟨fun hD => ?_, h1, h2, h3⟩
    rcases hD with hD | ⟨i', T, sz, rows, hi', hb', hr'⟩
    · exact h1 hD
    · exact hc.apart j i h ((hs.inj i i' b _ k hb hb' hl rfl hr hr') ▸ hi')
  have hX1 : ∀ k, D1 k → ¬ X1 k := fun k h hx => (hXs k hx).1 h
  have hD1lt : ∀ k, D1 k → k < w.heap.size := by
    rintro k (hk | ⟨i, T, sz, rows, _, hb, hr⟩)
    · exact hs.dlt k hk
    · exact (hs.apart i _ k hb rfl hr).2.2
  have hsame1 : Same D1 w w' := fun k hk => he.kept.block k (hD1lt k hk) (hX1 k hk)
  have hsame : Same D w w' := fun k hk => hsame1 k (.inl hk)
  have h12 : ∀ k, D1 k → D2 k := he.dold
  have hD2 : ∀ k, D k → D2 k := fun k h => h12 k (.inl h)
  let ρ' : Nat → Option (Option Nat) := fun i => if i ∈ N.map (nx + ·) then ρ2 (i - nx) else ρ i
  have hN : ∀ i r, ρ i = some r → i ∉ N.map (nx + ·) := by
    intro i r hr hi
    obtain ⟨q, hq, rfl⟩ := List.mem_map.1 hi
    exact ha.newL q hq (hs.given _ r hr)
  have hρ' : ∀ i r, ρ i = some r → ρ' i = some r := fun i r hr => by simp only [ρ', if_neg (hN i r hr)]; exact hr
  have hρn : ∀ q ∈ N, ρ' (nx + q) = ρ2 q := fun q hq => by simp only [ρ']; rw [if_pos (List.mem_map.2 ⟨q, hq, rfl⟩)]; congr 1; omega
  have hkeep : ∀ g, g < w.heap.size → ¬ X1 g → w'.heap[g]? = w.heap[g]? := fun g h1 h2 => he.kept.block g h1 h2
  -- an elder number: handed over, lent, or as it was
  have cases3 : ∀ i, (∀ q ∈ N, i ≠ nx + q) → (∃ j, hand j = some i) ∨ ((∀ j, hand j ≠ some i) ∧ i ∈ lent) ∨ ((∀ j, hand j ≠ some i) ∧ i ∉ lent ∧ σ' i = σ i) := by
    intro i hq
    by_cases h : ∃ j, hand j = some i
    · exact .inl h
    · have h' : ∀ j, hand j ≠ some i := fun j hj => h ⟨j, hj⟩
      by_cases hl : i ∈ lent
      · exact .inr (.inl ⟨h', hl⟩)
      · exact .inr (.inr ⟨h', hl, ha.old i hq h' hl⟩)
  have oldN : ∀ i r, ρ i = some r → ∀ q ∈ N, i ≠ nx + q := fun i r hr q hq e => hN i r hr (List.mem_map.2 ⟨q, hq, e.symm⟩)
  have notX : ∀ i b g, σ i = some b → b.live = true → ρ i = some (some g) → (∀ j, hand j ≠ some i) → ¬ X1 g := by
    rintro i b g hb hl hr hh ⟨j, i', h, hr'⟩
    obtain ⟨b', hb', hl'⟩ := live j i' h
    exact hh j (h.trans (by rw [hs.inj i' i b' b g hb' hb hl' hl hr' hr]))
  -- what a handed number has become
  have handed : ∀ j i, hand j = some i → σ' i = none ∨ ∃ out, lkB S j = some (.box out) ∧ out.all isDat = true ∧ σ' i = some (.box out) := by
    intro j i h
    rcases hc.ok j i h with ⟨T, sz, rows, _, hag⟩ | ⟨cs, _, _, hag⟩
    · exact .inl (ha.give j i T sz rows h hag)
    · exact .inr (ha.refB j i _ h hag)
  have mv : Mv w w' D D2 ρ ρ' σ σ' := by
    refine ⟨hsame, hD2, hρ', fun i r v hr ho => ?_, fun i g j off v hr hel => ?_⟩
    · rcases cases3 i (oldN i r hr) with ⟨j, hj⟩ | ⟨hh, hl⟩ | ⟨hh, hl, hσ⟩
      · rcases handed j i hj with h | ⟨out, _, _, h⟩ <;> rw [h] <;> exact ⟨fun _ _ _ h => by simp at h, fun _ h => by simp at h⟩
      · rw [ha.lend i hl]
        cases hb : σ i with
        | none => exact ⟨fun _ _ _ h => by simp [frz] at h, fun _ h => by simp [frz] at h⟩
        | some b =>
          cases b with
          | box cs => exact ⟨fun _ _ _ h => by simp [frz] at h, fun _ h => by simp [frz] at h⟩
          | ice rows =>
            refine ⟨fun _ _ _ h => by simp [frz] at h, fun rows' h => ?_⟩
            simp only [frz, Option.some.injEq, Blk.ice.injEq] at h
            subst h
            exact Rep.mono hsame hD2 _ _ (ho.2 _ hb)
          | row T sz rows =>
            refine ⟨fun _ _ _ h => by simp [frz] at h, fun rows' h => ?_⟩
            simp only [frz, Option.some.injEq, Blk.ice.injEq] at h
            subst h
            refine Rep.mono hsame1 h12 _ _ (own_data (D' := D1) hs (fun k h => .inl h) hb (fun g hg => .inr ⟨i, T, sz, rows, hl, hb, hg⟩) ?_)
            simp only [SRep]
            exact ⟨r, hr, ho⟩
      · rw [hσ]
        refine ⟨fun T sz rows hb => ?_, fun rows hb => Rep.mono hsame hD2 _ _ (ho.2 rows hb)⟩
        rcases ho.1 T sz rows hb with h3 | ⟨g, cap, arr, rfl, hv, hh', rest⟩
        · exact .inl h3
        · exact .inr ⟨g, cap, arr, rfl, hv, by rw [hkeep g (heap_lt hh') (notX i _ g hb rfl hr hh)]; exact hh', rest⟩
    · rcases cases3 i (oldN i _ hr) with ⟨q, hq⟩ | ⟨hh, hl⟩ | ⟨hh, hl, hσ⟩
      · rcases handed q i hq with h | ⟨out, _, _, h⟩ <;> rw [h] <;> exact fun _ _ _ h => by simp at h
      · rw [ha.lend i hl]
        intro T sz rows h
        cases hb : σ i with
        | none => rw [hb] at h; simp [frz] at h
        | some b => cases b <;> rw [hb] at h <;> simp [frz] at h
      · rw [hσ]; exact hel
  have mine2 : ∀ g, Mine w X1 g → Mine w0 X g := by
    rintro g (h | h)
    · exact .inl (Nat.le_trans hs.kept.size h)
    · exact (hXs g h).2.2.1
  have isN : ∀ i, i ∈ N.map (nx + ·) → ∃ q ∈ N, i = nx + q := fun i h => by
    obtain ⟨q, hq, e⟩ := List.mem_map.1 h
    exact ⟨q, hq, e.symm⟩
  -- an elder live number, as it now stands
  have elder : ∀ i b, i ∉ N.map (nx + ·) → σ' i = some b → b.live = true → (∃ j out, hand j = some i ∧ lkB S j = some (.box out) ∧ out.all isDat = true ∧ b = .box out) ∨ ((∀ j, hand j ≠ some i) ∧ i ∉ lent ∧ σ i = some b) := by
    intro i b hi hb hl
    rcases cases3 i (fun q hq e => hi (List.mem_map.2 ⟨q, hq, e.symm⟩)) with ⟨j, hj⟩ | ⟨hh, hlt⟩ | ⟨hh, hlt, hσ⟩
    · rcases handed j i hj with h | ⟨out, k1, k2, h⟩
      · rw [h] at hb; cases hb
      · rw [h] at hb; injection hb with hb; exact .inl ⟨j, out, hj, k1, k2, hb.symm⟩
    · exfalso
      rw [ha.lend i hlt] at hb
      rcases hc.lok i hlt with ⟨T, sz, rows, h⟩ | ⟨rows, h⟩ <;> rw [h] at hb <;> simp only [frz, Option.some.injEq] at hb <;> subst hb <;> simp [Blk.live] at hl
    · exact .inr ⟨hh, hlt, hσ ▸ hb⟩
  have elderR : ∀ i g, i ∉ N.map (nx + ·) → ρ' i = some (some g) → ρ i = some (some g) := fun i g hi hr => by simpa only [ρ', if_neg hi] using hr
  -- where an elder live number's block lies
  have elderA : ∀ i b g, i ∉ N.map (nx + ·) → σ' i = some b → b.live = true → ρ' i = some (some g) → ¬ D2 g ∧ Mine w0 X g ∧ g < w.heap.size ∧ (∃ b0, σ i = some b0 ∧ b0.live = true) := by
    intro i b g hi hb hl hr
    have hr0 := elderR i g hi hr
    rcases elder i b hi hb hl with ⟨j, out, hj, k1, k2, rfl⟩ | ⟨hh, hlt, hσ⟩
    · have hX : X1 g := ⟨j, i, hj, hr0⟩
      have hr2 := hρ j i (some g) hj ⟨out, hb⟩ hr0
      exact ⟨(he.apart j _ g k1 rfl hr2).1, (hXs g hX).2.2.1, (hXs g hX).2.2.2, live j i hj⟩
    · obtain ⟨h1, h2, h3⟩ := hs.apart i b g hσ hl hr0
      refine ⟨fun hd => ?_, h2, h3, ⟨b, hσ, hl⟩⟩
      rcases he.dnew g hd with hd | hd | hd
      · rcases hd with hd | ⟨i', T, sz, rows, hi', hb', hr'⟩
        · exact h1 hd
        · exact hlt ((hs.inj i i' b _ g hσ hb' hl rfl hr0 hr').symm ▸ hi')
      · omega
      · exact notX i b g hσ hl hr0 hh hd
  have newA : ∀ q ∈ N, ∀ b g, lkB S q = some b → ρ2 q = some (some g) → ¬ D2 g ∧ Mine w0 X g ∧ g < w'.heap.size ∧ Mine w X1 g := by
    intro q hq b g hb hr
    obtain ⟨T, sz, rows, hb'⟩ := ha.newB q hq
    obtain ⟨h1, h2, h3⟩ := he.apart q _ g hb' rfl hr
    exact ⟨h1, mine2 g h2, h3, h2⟩
  refine ⟨ρ', ⟨fun t => SRep.mv mv _ _ (hs.slots t), hs.ndef, ⟨he.kept.os.trans hs.kept.os, he.kept.tape.trans hs.kept.tape, he.kept.output.trans hs.kept.output, Nat.le_trans hs.kept.size he.kept.size, fun k hk hX => ?_⟩, he.dlt, fun k h => hD2 k (hs.dold k h), fun k h => ?_, fun i r hr => hρ' i r (hs.fix i r hr), fun i r hr => ?_, fun i b hb => ?_, fun i b g hb hl hr => ?_, fun i i' b b' g hb hb' hl hl' hr hr' => ?_⟩, ?_⟩
  · rw [he.kept.block k (Nat.lt_of_lt_of_le hk hs.kept.size) (fun hx => ?_)]
    · exact hs.kept.block k hk hX
    · rcases (hXs k hx).2.2.1 with h | h
      · omega
      · exact hX h
  · rcases he.dnew k h with h | h
    · rcases h with h | ⟨i, T, sz, rows, _, hb, hr⟩
      · exact hs.dnew k h
      · exact .inr (hs.apart i _ k hb rfl hr).2.1
    · exact .inr (mine2 k h)
  · by_cases hi : i ∈ N.map (nx + ·)
    · exact .inr hi
    · simp only [ρ', if_neg hi] at hr
      exact .inl (hs.given i r hr)
  · -- blocks
    by_cases hi : i ∈ N.map (nx + ·)
    · obtain ⟨q, hq, rfl⟩ := isN i hi
      rw [ha.new q hq] at hb
      obtain ⟨T, sz, rows, hb'⟩ := ha.newB q hq
      rw [hb] at hb'
      injection hb' with hb'
      subst hb'
      obtain ⟨r', k1, k2⟩ := he.blk q _ hb
      exact ⟨r', by rw [hρn q hq]; exact k1, k2⟩
    · rcases cases3 i (fun q hq e => hi (List.mem_map.2 ⟨q, hq, e.symm⟩)) with ⟨j, hj⟩ | ⟨hh, hlt⟩ | ⟨hh, hlt, hσ⟩
      · rcases handed j i hj with h | ⟨out, k1, k2, h⟩
        · rw [h] at hb; cases hb
        · rw [h] at hb
          injection hb with hb
          subst hb
          obtain ⟨g, arr, T, q1, q2, q3, q4⟩ := he.blk j _ k1
          obtain ⟨b0, hb0, hl0⟩ := live j i hj
          have hB := hs.blk i b0 hb0
          obtain ⟨r0, hr0⟩ : ∃ r0, ρ i = some r0 := by
            cases b0 with
            | box cs => obtain ⟨g0, _, _, h0, _⟩ := hB; exact ⟨_, h0⟩
            | row T sz rows => obtain ⟨r0, h0, _⟩ := hB; exact ⟨_, h0⟩
            | ice rows => obtain ⟨r0, h0⟩ := hB; exact ⟨_, h0⟩
          have hr2 := hρ j i r0 hj ⟨out, h⟩ hr0
          rw [q1] at hr2
          injection hr2 with hr2
          subst hr2
          exact ⟨g, arr, T, hρ' i _ hr0, q2, dat_any k2 q3, q4⟩
      · rw [ha.lend i hlt] at hb
        rcases hc.lok i hlt with ⟨T, sz, rows, h⟩ | ⟨rows, h⟩
        · rw [h] at hb
          simp only [frz, Option.some.injEq] at hb
          subst hb
          obtain ⟨r0, h0, _⟩ := hs.blk i _ h
          exact ⟨r0, hρ' i _ h0⟩
        · rw [h] at hb
          simp only [frz, Option.some.injEq] at hb
          subst hb
          obtain ⟨r0, h0⟩ := hs.blk i _ h
          exact ⟨r0, hρ' i _ h0⟩
      · rw [hσ] at hb
        have hB := hs.blk i b hb
        cases b with
        | box cs =>
          obtain ⟨g, arr, T, k1, k2, k3, k4⟩ := hB
          exact ⟨g, arr, T, hρ' i _ k1, by rw [hkeep g (heap_lt k2) (notX i _ g hb rfl k1 hh)]; exact k2, SReps.mv mv _ _ k3, k4⟩
        | row T sz rows =>
          obtain ⟨r0, k1, k2⟩ := hB
          refine ⟨r0, hρ' i _ k1, ?_⟩
          cases r0 with
          | none => exact k2
          | some g =>
            have hlt' := (hs.apart i _ g hb rfl k1).2.2
            have := RowIn.keep hsame (hkeep g hlt' (notX i _ g hb rfl k1 hh)) k2
            obtain ⟨arr, cap, j1, j2, j3, j4, j5, j6⟩ := this
            exact ⟨arr, cap, j1, j2, j3, j4, j5, j6.dmono hD2⟩
        | ice rows =>
          obtain ⟨r0, k1⟩ := hB
          exact ⟨r0, hρ' i _ k1⟩
  · by_cases hi : i ∈ N.map (nx + ·)
    · obtain ⟨q, hq, rfl⟩ := isN i hi
      rw [ha.new q hq] at hb
      rw [hρn q hq] at hr
      obtain ⟨h1, h2, h3, _⟩ := newA q hq b g hb hr
      exact ⟨h1, h2, h3⟩
    · obtain ⟨h1, h2, h3, _⟩ := elderA i b g hi hb hl hr
      exact ⟨h1, h2, Nat.lt_of_lt_of_le h3 he.kept.size⟩
  · have cross : ∀ i i' b b' g, i ∈ N.map (nx + ·) → i' ∉ N.map (nx + ·) → σ' i = some b → σ' i' = some b' → b.live = true → b'.live = true → ρ' i = some (some g) → ρ' i' = some (some g) → False := by
      intro i i' b b' g hi hi' hb hb' hl hl' hr hr'
      obtain ⟨q, hq, rfl⟩ := isN i hi
      rw [ha.new q hq] at hb
      rw [hρn q hq] at hr
      obtain ⟨_, _, _, h4⟩ := newA q hq b g hb hr
      obtain ⟨_, _, k3, _⟩ := elderA i' b' g hi' hb' hl' hr'
      have hr0' := elderR i' g hi' hr'
      rcases elder i' b' hi' hb' hl' with ⟨j, out, hj, k1, k2, rfl⟩ | ⟨hh, hlt, hσ⟩
      · have hr2 := hρ j i' (some g) hj ⟨out, hb'⟩ hr0'
        have e := he.inj q j b _ g hb k1 hl rfl hr hr2
        subst e
        obtain ⟨T, sz, rows, hb2⟩ := ha.newB q hq
        rw [k1] at hb2
        cases hb2
      · rcases h4 with h4 | h4
        · omega
        · exact notX i' b' g hσ hl' hr0' hh h4
    by_cases hi : i ∈ N.map (nx + ·)
    · by_cases hi' : i' ∈ N.map (nx + ·)
      · obtain ⟨q, hq, rfl⟩ := isN i hi
        obtain ⟨q', hq', rfl⟩ := isN i' hi'
        rw [ha.new q hq] at hb
        rw [ha.new q' hq'] at hb'
        rw [hρn q hq] at hr
        rw [hρn q' hq'] at hr'
        rw [he.inj q q' b b' g hb hb' hl hl' hr hr']
      · exact (cross i i' b b' g hi hi' hb hb' hl hl' hr hr').elim
    · by_cases hi' : i' ∈ N.map (nx + ·)
      · exact (cross i' i b' b g hi' hi hb' hb hl' hl hr' hr).elim
      · obtain ⟨_, _, _, b0, hb0, hl0⟩ := elderA i b g hi hb hl hr
        obtain ⟨_, _, _, b1, hb1, hl1⟩ := elderA i' b' g hi' hb' hl' hr'
        exact hs.inj i i' b0 b1 g hb0 hb1 hl0 hl1 (elderR i g hi hr) (elderR i' g hi' hr')
  · have h0 := he.slots 0
    have hv : (#[v] : Array Value).getD 0 undef = v := rfl
    have hE : Er r 0 = r := by simp [Er]
    rw [hE] at h0
    refine shS_rep (ρ := ρ2) (σ := lkB S) (fun q hq x hx => by rw [hρn q hq]; exact hx) (fun q hq => ha.new q hq) r v hrN h0

/-- A call. -/
theorem sem_call {P : Program} {o : Oper} {f : FuncId} {fx : Operand} {xs : Array Operand} {ts : Array TypeId} (ho : o.op = .call { callee := .value fx, args := xs, argTypes := ts }) (hf : evO E fx = .d (.fn f))
    {bs : List Bool} {args : List SV} {hand : Nat → Option Nat} {lent : List Nat} (hc : CallOf σ (xs.toList.map (evO E)) bs args hand lent)
    {r : SV} {S : Sto} {N : List Nat} {nx : Nat} {wr : Sto} (ha : AfterOf L σ (updB σ wr) args hand lent S N nx) (hrN : inS N r = true) (hok : FnOK P f args r S) :
    OpSem P o L E σ (shS nx r) wr (N.map (nx + ·)) := by
  intro w0 X D0 a w ⟨D, ρ, hs⟩ hd
  have hb := call_begin hs hc
  have hlen : (xs.toList.map a.eval).toArray.size = args.length := by
    have h1 := hc.len
    have h2 : args.length = (List.zipWith (argS σ) bs (xs.toList.map (evO E))).length := by rw [← hc.eargs]
    simp at h1 h2
    simp
    omega
  have h := hok w _ _ _ _ hlen hb
  have hex : execOp a.eval o = callFunc f (xs.toList.map a.eval).toArray := by
    have e : (xs.map a.eval) = (xs.toList.map a.eval).toArray := by rw [← Array.toList_map, Array.toArray_toList]
    have hfv := evO_rep hs fx
    rw [hf] at hfv
    simp only [SRep, Rep] at hfv
    simp [execOp, ho, resolve, hfv, Deferred.ofValue, invoke, e]
  have fin : ∀ v w', (∃ D2 ρ2, StD w (fun k => ∃ j i, hand j = some i ∧ ρ i = some (some k)) ⟨fun k => D k ∨ ∃ i T sz rows, i ∈ lent ∧ σ i = some (.row T sz rows) ∧ ρ i = some (some k), fixA args fun j => match hand j with | some i => ρ i | none => none⟩ (fun _ => True) D2 ρ2 (Er r) (lkB S) ⟨#[v], []⟩ w') →
      (a.put o.dst v).tmps.size = a.tmps.size ∧ St w0 X D0 (fun i => L i ∨ i ∈ N.map (nx + ·)) (upd E o.dst (shS nx r)) (updB σ wr) (a.put o.dst v) w' := by
    rintro v w' ⟨D2, ρ2, he⟩
    obtain ⟨ρ', h1, h2⟩ := call_end hs hc ha hrN he
    exact ⟨put_size _ _ _, D2, ρ', h1.put o.dst hd h2⟩
  unfold Oper.wp
  rw [hex]
  generalize (callFunc f (xs.toList.map a.eval).toArray).run P w = res at h
  unfold UponCall at h
  split at h
  · rename_i v w'
    exact fin v w' h
  · rename_i g args' w1
    simp only [Oper.upon]
    refine h.mono ?_
    rintro e w' ⟨v, rfl, hv⟩
    exact fin v w' hv
  · exact h.elim
end
end Go.Proofs.Ytikfkipalifohaa.A
