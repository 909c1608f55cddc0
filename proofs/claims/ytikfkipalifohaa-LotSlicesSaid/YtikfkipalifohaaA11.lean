/- The layer, part 11: freezing a row; slices of slices, copies, quotients, shifts, comparisons. -/
import Derived.Test.YtikfkipalifohaaA10
import Derived.Laws.Slices
import Derived.Laws.StructEq
import Derived.Laws.Small
import Derived.Laws.Cover1
namespace Go.Proofs.Ytikfkipalifohaa.A
open Go Go.RowKit

section
variable {P : Program} {o : Oper} {L : Nat → Prop} {E : Nat → SV} {σ : Nat → Option Blk}
/-- A row is never written any more: it is data from now on. -/
theorem StD.freeze {w0 w : World} {X : Nat → Prop} {D0 : Base} {D : Nat → Prop} {ρ : Nat → Option (Option Nat)} {a : Act} (hs : StD w0 X D0 L D ρ E σ a w) {i : Nat} {T : TypeId} {sz : Nat} {rows : List (List PV)} (hb : σ i = some (.row T sz rows)) :
    ∃ D', StD w0 X D0 L D' ρ E (setB σ i (some (.ice rows))) a w := by
  have hd : ∀ k, D k → (fun k => D k ∨ ρ i = some (some k)) k := fun k h => .inl h
  have hmv : Mv w w D (fun k => D k ∨ ρ i = some (some k)) ρ ρ σ (setB σ i (some (.ice rows))) := by
    refine ⟨Same.refl _ _, hd, fun _ _ h => h, fun j r v hr hO => ?_, fun j g j' off v hr hO => ?_⟩
    · by_cases e : i = j
      · subst e
        rw [setB_self]
        refine ⟨fun _ _ _ h => by simp at h, fun rows' h => ?_⟩
        simp only [Option.some.injEq, Blk.ice.injEq] at h
        subst h
        exact own_data hs hd hb (fun g h => .inr h) (by simp only [SRep]; exact ⟨r, hr, hO⟩)
      · simp only [setB, if_neg e]
        exact ⟨fun T sz rows h => hO.1 T sz rows h, fun rows h => Rep.mono (Same.refl _ _) hd _ _ (hO.2 rows h)⟩
    · by_cases e : i = j
      · subst e
        rw [setB_self]
        intro T' sz' rows' h
        simp at h
      · simp only [setB, if_neg e]
        exact hO
  have hl : ∀ j b, setB σ i (some (.ice rows)) j = some b → b.live = true → j ≠ i ∧ σ j = some b := by
    intro j b h1 h2
    by_cases e : i = j
    · subst e
      rw [setB_self] at h1
      injection h1 with h1
      subst h1
      cases h2
    · simp only [setB, if_neg e] at h1
      exact ⟨fun h => e h.symm, h1⟩
  refine ⟨fun k => D k ∨ ρ i = some (some k), ⟨fun t => SRep.mv hmv _ _ (hs.slots t), hs.ndef, hs.kept, ?_, fun k h => .inl (hs.dold k h), ?_, hs.fix, hs.given, ?_, ?_, ?_⟩⟩
  · rintro k (h | h)
    · exact hs.dlt k h
    · exact (hs.apart i _ k hb rfl h).2.2
  · rintro k (h | h)
    · exact hs.dnew k h
    · exact .inr (hs.apart i _ k hb rfl h).2.1
  · intro j b hj
    by_cases e : i = j
    · subst e
      rw [setB_self] at hj
      injection hj with hj
      subst hj
      obtain ⟨r, h1, _⟩ := hs.blk i _ hb
      exact ⟨r, h1⟩
    · simp only [setB, if_neg e] at hj
      have h1 := hs.blk j b hj
      cases b with
      | box cs =>
        obtain ⟨g, arr, T', h2, h3, h4, h5⟩ := h1
        exact ⟨g, arr, T', h2, h3, SReps.mv hmv _ _ h4, h5⟩
      | row T' sz' rows' =>
        obtain ⟨r, h2, h3⟩ := h1
        refine ⟨r, h2, ?_⟩
        cases r with
        | none => exact h3
        | some g =>
          obtain ⟨arr, cap, k1, k2, k3, k4, k5, k6⟩ := h3
          exact ⟨arr, cap, k1, k2, k3, k4, k5, k6.dmono hd⟩
      | ice rows' => exact h1
  · intro j b g h1 h2 h3
    obtain ⟨hne, h4⟩ := hl j b h1 h2
    obtain ⟨k1, k2, k3⟩ := hs.apart j b g h4 h2 h3
    refine ⟨?_, k2, k3⟩
    rintro (h | h)
    · exact k1 h
    · exact hne (hs.inj j i b _ g h4 hb h2 rfl h3 h)
  · intro j j' b c g h1 h2 h3 h4 h5 h6
    exact hs.inj j j' b c g (hl j b h1 h3).2 (hl j' c h2 h4).2 h3 h4 h5 h6
theorem St.freeze {w0 w : World} {X : Nat → Prop} {D0 : Base} {a : Act} (hs : St w0 X D0 L E σ a w) {i : Nat} {T : TypeId} {sz : Nat} {rows : List (List PV)} (hb : σ i = some (.row T sz rows)) : St w0 X D0 L E (setB σ i (some (.ice rows))) a w := by
  obtain ⟨D, ρ, hs⟩ := hs
  obtain ⟨D', h⟩ := hs.freeze hb
  exact ⟨D', ρ, h⟩
/-- What is true of an operation behind the freezing. -/
theorem OpSem.frozen {i : Nat} {T : TypeId} {sz : Nat} {rows : List (List PV)} {x : SV} (hb : σ i = some (.row T sz rows)) (h : OpSem P o L E (setB σ i (some (.ice rows))) x [] []) : OpSem P o L E σ x [(i, some (.ice rows))] [] := by
  intro w0 X D0 a w hs hd
  have := h w0 X D0 a w (hs.freeze hb) hd
  rw [updB_one]
  exact this

/-- Data that a slot holds as a slice. -/
def listS (σ : Nat → Option Blk) : SV → Option (List (List PV))
  | .d (.list rows) => some rows
  | .nils => some []
  | .own i => match σ i with
    | some (.ice rows) => some rows
    | _ => none
  | _ => none
theorem list_rep {w : World} {D : Nat → Prop} {ρ : Nat → Option (Option Nat)} {x : SV} {v : Value} {rows : List (List PV)} (h : SRep w D ρ σ x v) (hx : listS σ x = some rows) : Rep w D (.list rows) v := by
  cases x with
  | d p =>
    cases p with
    | list r => simp only [listS, Option.some.injEq] at hx; subst hx; simpa only [SRep] using h
    | _ => simp [listS] at hx
  | nils => simp only [listS, Option.some.injEq] at hx; subst hx; simp only [SRep] at h; subst h; simp [Rep]
  | own i =>
    simp only [listS] at hx
    simp only [SRep] at h
    obtain ⟨r, _, _, hI⟩ := h
    split at hx
    · rename_i rows' hb
      injection hx with hx
      subst hx
      exact hI _ hb
    · cases hx
  | _ => simp [listS] at hx
/-- A bound of a slice expression. -/
def bndS (E : Nat → SV) (len : Int) : Option Operand → Option Int
  | none => some len
  | some x => match evO E x with
    | .d (.int _ n) => some n
    | _ => none
theorem bnd_eval {w0 w : World} {X : Nat → Prop} {D0 : Base} {D : Nat → Prop} {ρ : Nat → Option (Option Nat)} {a : Act} (hs : StD w0 X D0 L D ρ E σ a w) {len n : Int} {b : Option Operand} (h : bndS E len b = some n) : (b = none ∧ n = len) ∨ ∃ x k, b = some x ∧ a.eval x = .int k n := by
  cases b with
  | none => simp only [bndS, Option.some.injEq] at h; exact .inl ⟨rfl, h.symm⟩
  | some x =>
    have h1 := evO_rep hs x
    simp only [bndS] at h
    split at h
    · rename_i k m hm
      injection h with h
      subst h
      rw [hm] at h1
      simp only [SRep, Rep] at h1
      exact .inr ⟨x, k, rfl, h1⟩
    · cases h
theorem elem_of {t e : TypeId} (h : (ti P t).kind = .slice e) : P.underlying t = some (.slice (P.elem t)) ∧ P.elem t = e := by
  have hu := ti_slice h
  have : P.elem t = e := by simp [Program.elem, hu]
  rw [this]
  exact ⟨hu, rfl⟩
theorem sliced_rep {w : World} {D : Nat → Prop} {rows : List (List PV)} {A : Option Addr} {cap sz l h m : Nat} (hr : Rep w D (.list rows) (.slice A rows.length cap)) (hsz : ∀ r ∈ rows, r.length = sz) (h1 : l ≤ h) (h2 : h ≤ rows.length) (h3 : h ≤ m) (h4 : m ≤ cap) : Rep w D (.list ((rows.take h).drop l)) (sliced A l h m sz) := by
  have hlen : ((rows.take h).drop l).length = h - l := by simp; omega
  simp only [Rep] at hr ⊢
  by_cases he : h = l
  · subst he
    have : (rows.take h).drop h = [] := List.eq_nil_of_length_eq_zero (by rw [hlen]; omega)
    left
    exact ⟨this, if m = h then A else A.map (·.add (h * sz)), m - h, by simp only [sliced, Nat.sub_self]⟩
  · rcases hr with ⟨rfl, _⟩ | ⟨ad, cap', sz', hv, k1, k2, k3, k4, k5⟩
    · simp at h2; omega
    · injection hv with e1 e2 e3
      subst e1 e3
      right
      have hsz' : sz' = sz := by
        have hj : rows[0]? = some rows[0] := List.getElem?_eq_getElem (by omega)
        have := (k5.get 0 _ hj).1
        rw [← this]
        exact hsz _ (List.getElem_mem _)
      subst hsz'
      refine ⟨ad.add (l * sz'), m - l, sz', ?_, by rw [hlen]; omega, by omega, add_spot k3 _, by rw [add_block]; exact k4, ?_⟩
      · simp only [sliced, show ¬ m = l by omega, if_false, Option.map_some, hlen]
      · refine RepRows.of_get fun j r hj => ?_
        have hj' : rows[l + j]? = some r := by
          rw [List.getElem?_drop, List.getElem?_take] at hj
          split at hj
          · exact hj
          · cases hj
        obtain ⟨g1, g2⟩ := k5.get _ _ hj'
        refine ⟨g1, RepCells.shift k3 ?_⟩
        rw [show l * sz' + (0 + j * sz') = 0 + (l + j) * sz' by rw [Nat.add_mul]; omega]
        exact g2
theorem sem_slice {x : Operand} {t e : TypeId} {lo hi mx : Option Operand} {rows : List (List PV)} {l h m : Int} (ho : o.op = .slice t x lo hi mx) (hk : (ti P t).kind = .slice e) (hok : (ti P e).ok = true) (hx : listS σ (evO E x) = some rows)
    (hsz : ∀ r ∈ rows, r.length = (ti P e).size) (hl : bndS E 0 lo = some l) (hh : bndS E rows.length hi = some h) (hm : bndS E rows.length mx = some m) (hmx : mx ≠ none → hi ≠ none)
    (h0 : 0 ≤ l) (h1 : l ≤ h) (h2 : h ≤ m) (h3 : m ≤ rows.length) : OpSem P o L E σ (.d (.list ((rows.take h.toNat).drop l.toNat))) [] [] :=
  OpSem.pure fun w0 X D0 D ρ a w hs => by
    have hr := list_rep (evO_rep hs x) hx
    have hform : ∃ A cap, a.eval x = .slice A rows.length cap ∧ rows.length ≤ cap := by
      simp only [Rep] at hr
      rcases hr with ⟨rfl, ad, c, hv⟩ | ⟨ad, cap, sz, hv, k1, _⟩
      · exact ⟨_, _, hv, by simp⟩
      · exact ⟨_, _, hv, k1⟩
    obtain ⟨A, cap, hv, hcap⟩ := hform
    rw [hv] at hr
    obtain ⟨hu, he⟩ := elem_of hk
    have hso : (sizeOf (P.elem t)).run P w = .ok (ti P e).size w := by rw [he]; exact run_sizeOf' hok w
    have key : ∀ (l' h' m' : Nat) (v : Value), (Instr.slice t (.slice A rows.length cap) (lo.map a.eval) (hi.map a.eval) (mx.map a.eval)).run P w = ((sizeOf (P.elem t)).run P w).andThen (fun s w => .ok (sliced A l' h' m' s) w) →
        l' = l.toNat → h' = h.toNat → h' ≤ m' → m' ≤ cap → ∃ v, (execOp a.eval o).run P w = .ok (.value v) w ∧ SRep w D ρ σ (.d (.list ((rows.take h.toNat).drop l.toNat))) v := by
      intro l' h' m' v hrun e1 e2 e3 e4
      subst e1 e2
      refine ⟨_, by simp only [execOp, ho, hv, Sem.run_bind, run_sliceAt_slice w t _ _ _ _ hu, hrun, hso, Result.andThen_ok]; rfl, ?_⟩
      simp only [SRep]
      exact sliced_rep hr hsz (by omega) (by omega) e3 e4
    rcases bnd_eval hs hl with ⟨rfl, rfl⟩ | ⟨xl, kl, rfl, el⟩ <;> rcases bnd_eval hs hh with ⟨rfl, rfl⟩ | ⟨xh, kh, rfl, eh⟩ <;> rcases bnd_eval hs hm with ⟨rfl, rfl⟩ | ⟨xm, km, rfl, em⟩
    · exact key 0 rows.length cap undef (by simpa using run_slice_all w t A rows.length cap hu) (by simp) (by simp) hcap (Nat.le_refl _)
    · exact absurd rfl (hmx (by simp))
    · exact key 0 h.toNat cap undef (by simpa [eh] using run_slice_h w t A rows.length cap hu kh h (by omega) (by omega)) (by simp) rfl (by omega) (Nat.le_refl _)
    · exact key 0 h.toNat m.toNat undef (by simpa [eh, em] using run_slice_hm w t A rows.length cap hu kh km h m (by omega) h2 (by omega)) (by simp) rfl (by omega) (by omega)
    · exact key l.toNat rows.length cap undef (by simpa [el] using run_slice_l w t A rows.length cap hu kl l h0 h1) rfl (by simp) hcap (Nat.le_refl _)
    · exact absurd rfl (hmx (by simp))
    · exact key l.toNat h.toNat cap undef (by simpa [el, eh] using run_slice_lh w t A rows.length cap hu kl kh l h h0 h1 (by omega)) rfl rfl (by omega) (Nat.le_refl _)
    · exact key l.toNat h.toNat m.toNat undef (by simpa [el, eh, em] using run_slice_lhm w t A rows.length cap hu kl kh km l h m h0 h1 h2 (by omega)) rfl rfl (by omega) (by omega)

theorem sem_quo {t u : TypeId} {x y : Operand} {k : IntKind} {m n : Int} (ho : o.op = .binOp .quo t x y u) (hx : evO E x = .d (.int k m)) (hy : evO E y = .d (.int k n)) (hn : n ≠ 0) : OpSem P o L E σ (.d (.int k (k.wrap (m.tdiv n)))) [] [] :=
  OpSem.pure fun w0 X D0 D ρ a w hs => by
    have h1 := evO_rep hs x
    have h2 := evO_rep hs y
    rw [hx] at h1
    rw [hy] at h2
    simp only [SRep, Rep] at h1 h2
    exact ⟨.int k (k.wrap (m.tdiv n)), by simp [execOp, ho, h1, h2, eqGuard_at_int, binOp_quo, binOp_rem, Op.intDiv, hn], by simp [SRep, Rep]⟩
theorem sem_rem {t u : TypeId} {x y : Operand} {k : IntKind} {m n : Int} (ho : o.op = .binOp .rem t x y u) (hx : evO E x = .d (.int k m)) (hy : evO E y = .d (.int k n)) (hn : n ≠ 0) : OpSem P o L E σ (.d (.int k (m.tmod n))) [] [] :=
  OpSem.pure fun w0 X D0 D ρ a w hs => by
    have h1 := evO_rep hs x
    have h2 := evO_rep hs y
    rw [hx] at h1
    rw [hy] at h2
    simp only [SRep, Rep] at h1 h2
    exact ⟨.int k (m.tmod n), by simp [execOp, ho, h1, h2, eqGuard_at_int, binOp_quo, binOp_rem, Op.intDiv, hn], by simp [SRep, Rep]⟩
theorem sem_shl {t u : TypeId} {x y : Operand} {k k' : IntKind} {m n : Int} (ho : o.op = .binOp .shl t x y u) (hx : evO E x = .d (.int k m)) (hy : evO E y = .d (.int k' n)) (hn : 0 ≤ n) : OpSem P o L E σ (.d (.int k (k.wrap (m * 2 ^ min n.toNat k.bits)))) [] [] :=
  OpSem.pure fun w0 X D0 D ρ a w hs => by
    have h1 := evO_rep hs x
    have h2 := evO_rep hs y
    rw [hx] at h1
    rw [hy] at h2
    simp only [SRep, Rep] at h1 h2
    exact ⟨.int k (k.wrap (m * 2 ^ min n.toNat k.bits)), by simp [execOp, ho, h1, h2, eqGuard_at_int, binOp_shl, binOp_shr, Op.shift, Int.not_lt.2 hn], by simp [SRep, Rep]⟩
theorem sem_shr {t u : TypeId} {x y : Operand} {k k' : IntKind} {m n : Int} (ho : o.op = .binOp .shr t x y u) (hx : evO E x = .d (.int k m)) (hy : evO E y = .d (.int k' n)) (hn : 0 ≤ n) : OpSem P o L E σ (.d (.int k (m.fdiv (2 ^ min n.toNat k.bits)))) [] [] :=
  OpSem.pure fun w0 X D0 D ρ a w hs => by
    have h1 := evO_rep hs x
    have h2 := evO_rep hs y
    rw [hx] at h1
    rw [hy] at h2
    simp only [SRep, Rep] at h1 h2
    exact ⟨.int k (m.fdiv (2 ^ min n.toNat k.bits)), by simp [execOp, ho, h1, h2, eqGuard_at_int, binOp_shl, binOp_shr, Op.shift, Int.not_lt.2 hn], by simp [SRep, Rep]⟩

/-! ### == -/
def eqB : SV → SV → Bool
  | .d (.int _ a), .d (.int _ b) => decide (a = b)
  | .d (.bool a), .d (.bool b) => a == b
  | .d (.str a), .d (.str b) => a.toList == b.toList
  | _, _ => false
/-- Do these values fit the type and can they be compared? -/
def eqV (P : Program) (t : TypeId) : SV → SV → Bool
  | .d (.int k _), .d (.int k' _) => decide (k = k') && (match P.underlying t with | some (.int _) => true | _ => false)
  | .d (.bool _), .d (.bool _) => (match P.underlying t with | some .bool => true | _ => false)
  | .d (.str _), .d (.str _) => (match P.underlying t with | some .string => true | _ => false)
  | _, _ => false
def eqF (P : Program) : List Field → Nat → List SV → List SV → Bool
  | [], _, [], [] => true
  | f :: fs, i, c :: cs, d :: ds => (f.name != "_") && (f.offset == i) && (ti P f.type).ok && !(ti P f.type).kind.agg && eqV P f.type c d && eqF P fs (i + 1) cs ds
  | _, _, _, _ => false
def eqs : List SV → List SV → Bool
  | c :: cs, d :: ds => eqB c d && eqs cs ds
  | _, _ => true
theorem run_eqV {w : World} {D : Nat → Prop} {ρ : Nat → Option (Option Nat)} {t : TypeId} {c d : SV} {u v : Value} {n : Nat} (hc : SRep w D ρ σ c u) (hd : SRep w D ρ σ d v) (h : eqV P t c d = true) : (Op.equalIn (n + 1) t u v).run P w = .ok (eqB c d) w := by
  unfold eqV at h
  split at h
  · rename_i k a k' b
    simp only [SRep, Rep] at hc hd
    subst hc hd
    simp only [Bool.and_eq_true, decide_eq_true_eq] at h
    obtain ⟨rfl, h⟩ := h
    split at h
    · rename_i k' hk
      rw [run_equalIn_int w n t k k' a b hk]
      simp only [eqB]
      rfl
    · cases h
  · rename_i a b
    simp only [SRep, Rep] at hc hd
    subst hc hd
    split at h
    · rename_i hk
      exact run_equalIn_bool w n t a b hk
    · cases h
  · rename_i a b
    simp only [SRep, Rep] at hc hd
    subst hc hd
    split at h
    · rename_i hk
      exact run_equalIn_string w n t a b hk
    · cases h
  · cases h
theorem run_part1 {t : TypeId} {w : World} {xs : Array Value} {i : Nat} {v : Value} (hok : (ti P t).ok = true) (hk : (ti P t).kind.agg = false) (hv : xs[i]? = some v) : (part t xs i).run P w = .ok v w := by
  simp [part, run_isAgg hok, hk, hv]
theorem run_eqF {w : World} {D : Nat → Prop} {ρ : Nat → Option (Option Nat)} {n : Nat} {xs ys : Array Value} : ∀ (fs : List Field) (i : Nat) (cs ds : List SV), eqF P fs i cs ds = true → SReps w D ρ σ cs (xs.toList.drop i) → SReps w D ρ σ ds (ys.toList.drop i) →
    (Op.eqFields (n + 1) xs ys fs).run P w = .ok (eqs cs ds) w
  | [], i, [], [], _, _, _ => by simp [Op.eqFields, eqs]
  | f :: fs, i, c :: cs, d :: ds, h, hx, hy => by
    simp only [eqF, Bool.and_eq_true, bne_iff_ne, ne_eq, beq_iff_eq, Bool.not_eq_true'] at h
    obtain ⟨⟨⟨⟨⟨h1, h2⟩, h3⟩, h4⟩, h5⟩, h6⟩ := h
    simp only [SReps] at hx hy
    obtain ⟨u, us, hu, hur, hus⟩ := hx
    obtain ⟨v, vs, hv, hvr, hvs⟩ := hy
    have gx : xs[i]? = some u := by
      have := congrArg (·[0]?) hu
      simpa using this
    have gy : ys[i]? = some v := by
      have := congrArg (·[0]?) hv
      simpa using this
    have e1 : xs.toList.drop (i + 1) = us := by
      have := congrArg (·.drop 1) hu
      simpa using this
    have e2 : ys.toList.drop (i + 1) = vs := by
      have := congrArg (·.drop 1) hv
      simpa using this
    have ih := run_eqF (n := n) fs (i + 1) cs ds h6 (by rw [e1]; exact hus) (by rw [e2]; exact hvs)
    subst h2
    simp only [Op.eqFields, ne_eq, h1, not_false_eq_true, if_true, Sem.run_bind, run_part1 h3 h4 gx, run_part1 h3 h4 gy, Result.andThen_ok, run_eqV hur hvr h5, eqs]
    cases hb : eqB c d
    · simp
    · simpa using ih
  | [], _, _ :: _, _, h, _, _ => by simp [eqF] at h
  | [], _, [], _ :: _, h, _, _ => by simp [eqF] at h
  | _ :: _, _, [], _, h, _, _ => by simp [eqF] at h
  | _ :: _, _, _ :: _, [], h, _, _ => by simp [eqF] at h
/-- May these two be compared, at this type? -/
def cmpOK (P : Program) (t : TypeId) : SV → SV → Bool
  | .agg cs, .agg ds => !P.eqGuardType P.depth t && !P.stoodInHeld t && (match P.underlying t with | some (.struct fs) => eqF P fs.toList 0 cs ds | _ => false)
  | .d (.bool a), .d (.bool b) => eqV P t (.d (.bool a)) (.d (.bool b))
  | .d (.str _), .d (.str _) => true
  | _, _ => false
def cmpB : SV → SV → Bool
  | .agg cs, .agg ds => eqs cs ds
  | x, y => eqB x y
theorem run_cmp {w : World} {D : Nat → Prop} {ρ : Nat → Option (Option Nat)} {t : TypeId} {c d : SV} {u v : Value} {x y : Operand} (hc : SRep w D ρ σ c u) (hd : SRep w D ρ σ d v) (h : cmpOK P t c d = true) :
    (∀ op, (eqGuard op t x y u v).run P w = .ok () w) ∧ (binOp .eql t u v).run P w = .ok (.bool (cmpB c d)) w ∧ (binOp .neq t u v).run P w = .ok (.bool (!cmpB c d)) w := by
  unfold cmpOK at h
  split at h
  · rename_i cs ds
    simp only [SRep] at hc hd
    obtain ⟨xs, rfl, hx⟩ := hc
    obtain ⟨ys, rfl, hy⟩ := hd
    simp only [Bool.and_eq_true, Bool.not_eq_true'] at h
    obtain ⟨⟨h1, h2⟩, h3⟩ := h
    split at h3
    · rename_i fs hu
      have hfo : P.fieldsOf t = fs := by simp [Program.fieldsOf, hu]
      have hu' : P.underlying t = some (.struct (P.fieldsOf t)) := by rw [hfo]; exact hu
      have hr := run_eqF (P := P) (w := w) (n := 9998) fs.toList 0 cs ds h3 (by simpa using hx) (by simpa using hy)
      have he : (Op.equalIn 10000 t (.agg xs) (.agg ys)).run P w = .ok (eqs cs ds) w := by
        rw [run_equalIn_agg w 9999 t xs ys hu' h2, hfo]
        exact hr
      refine ⟨fun op => run_eqGuard_agg w op t x y xs ys h1, ?_, ?_⟩
      · rw [run_eql_struct, he]; rfl
      · rw [run_neq_struct, he]; rfl
    · cases h3
  · rename_i a b
    have he := run_eqV (n := 9999) hc hd h
    simp only [SRep, Rep] at hc hd
    subst hc hd
    have he' : (Op.equal t (.bool a) (.bool b)).run P w = .ok (a == b) w := he
    refine ⟨fun op => by rw [eqGuard_at_bool]; rfl, ?_, ?_⟩
    · simp only [binOp, Sem.run_bind, he', Result.andThen_ok]; rfl
    · simp only [binOp, Sem.run_bind, he', Result.andThen_ok]; rfl
  · rename_i a b
    simp only [SRep, Rep] at hc hd
    subst hc hd
    refine ⟨fun op => by rw [eqGuard_at_string]; rfl, ?_, ?_⟩
    · rw [binOp_string_eql]; rfl
    · rw [binOp_string_neq]; rfl
  · cases h
theorem sem_cmp {op : BinOp} {t u : TypeId} {x y : Operand} (ho : o.op = .binOp op t x y u) (hop : op = .eql ∨ op = .neq) (h : cmpOK P t (evO E x) (evO E y) = true) : OpSem P o L E σ (.d (.bool (if op = .eql then cmpB (evO E x) (evO E y) else !cmpB (evO E x) (evO E y)))) [] [] :=
  OpSem.pure fun w0 X D0 D ρ a w hs => by
    obtain ⟨h1, h2, h3⟩ := run_cmp (x := x) (y := y) (evO_rep hs x) (evO_rep hs y) h
    rcases hop with rfl | rfl
    · exact ⟨_, by simp only [execOp, ho, Sem.run_bind, h1, Result.andThen_ok, h2]; rfl, by simp [SRep, Rep]⟩
    · exact ⟨_, by simp only [execOp, ho, Sem.run_bind, h1, Result.andThen_ok, h3]; rfl, by simp [SRep, Rep]⟩
theorem sem_minmax {b : Builtin} {ts : Array TypeId} {x y : Operand} {k k' : IntKind} {m n : Int} (ho : o.op = .call { callee := .builtin b, args := #[x, y], argTypes := ts }) (hx : evO E x = .d (.int k m)) (hy : evO E y = .d (.int k' n)) (hb : b = .max ∨ b = .min) :
    OpSem P o L E σ (.d (.int k (if b = .max then (if m < n then n else m) else (if n < m then n else m)))) [] [] :=
  OpSem.pure fun w0 X D0 D ρ a w hs => by
    have h1 := evO_rep hs x
    have h2 := evO_rep hs y
    rw [hx] at h1
    rw [hy] at h2
    simp only [SRep, Rep] at h1 h2
    rcases hb with rfl | rfl
    · exact ⟨_, by simp only [execOp, ho, resolve, Sem.run_bind, Sem.run_pure, Result.andThen_ok, invoke, builtin, List.map_toArray, List.map_cons, List.map_nil, h1, h2, run_max_int2, gt_iff_lt]; rfl, by simp [SRep, Rep]⟩
    · exact ⟨_, by simp only [execOp, ho, resolve, Sem.run_bind, Sem.run_pure, Result.andThen_ok, invoke, builtin, List.map_toArray, List.map_cons, List.map_nil, h1, h2, run_min_int2]; rfl, by simp [SRep, Rep]⟩
/-- A field of a struct. -/
theorem sem_field {x : Operand} {s : TypeId} {f off : Nat} {cs : List SV} {fields : Array Field} {fd : Field} (ho : o.op = .field s x f) (hx : evO E x = .agg cs) (hu : P.underlying s = some (.struct fields)) (hf : fields[f]? = some fd) (hoff : fd.offset = off) (hok : (ti P fd.type).ok = true) (hl : off + (ti P fd.type).size ≤ cs.length) (h1 : (ti P fd.type).kind.agg = false → off < cs.length) :
    OpSem P o L E σ (if (ti P fd.type).kind.agg = true then .agg ((cs.drop off).take (ti P fd.type).size) else cs.getD off .junk) [] [] :=
  OpSem.pure fun w0 X D0 D ρ a w hs => by
    have h2 := evO_rep hs x
    rw [hx] at h2
    simp only [SRep] at h2
    obtain ⟨arr, hv, hr⟩ := h2
    have hlen := hr.length
    simp at hlen
    subst hoff
    by_cases hk : (ti P fd.type).kind.agg = true
    · refine ⟨.agg (arr.extract fd.offset (fd.offset + (ti P fd.type).size)), by simp [execOp, ho, hv, Instr.field, run_underlying hu, hf, asAgg, part, run_isAgg hok, hk, run_sizeOf' hok], ?_⟩
      rw [if_pos hk]
      simp only [SRep]
      refine ⟨_, rfl, SReps.of_get ?_ fun j c v h3 h4 => ?_⟩
      · simp; omega
      · rw [List.getElem?_take, List.getElem?_drop] at h3
        split at h3
        · obtain ⟨v', h5, h6⟩ := hr.get _ c h3
          have : (arr.extract fd.offset (fd.offset + (ti P fd.type).size)).toList[j]? = arr.toList[fd.offset + j]? := by
            simp only [Array.toList_extract, List.extract_eq_take_drop, List.getElem?_take, List.getElem?_drop]
            rw [if_pos (by omega)]
          rw [this, h5] at h4
          injection h4 with h4
          subst h4
          exact h6
        · cases h3
    · have hk' : (ti P fd.type).kind.agg = false := by simpa using hk
      obtain ⟨v, h5, h6⟩ := hr.get fd.offset _ (List.getElem?_eq_getElem (h1 hk'))
      refine ⟨v, by simp [execOp, ho, hv, Instr.field, run_underlying hu, hf, asAgg, run_part1 hok hk' (show arr[fd.offset]? = some v by simpa using h5)], ?_⟩
      rw [if_neg hk, List.getD_eq_getElem?_getD, List.getElem?_eq_getElem (h1 hk')]
      exact h6
/-- The address of an array's element. -/
theorem sem_index_arr {x y : Operand} {t e : TypeId} {k : IntKind} {n : Int} {i off len : Nat} (ho : o.op = .indexAddr t x y) (hx : evO E x = .ptr i off) (hy : evO E y = .d (.int k n)) (hk : (ti P t).kind = .arr len e) (hok : (ti P e).ok = true) (h0 : 0 ≤ n) (h1 : n < len) :
    OpSem P o L E σ (.ptr i (off + n.toNat * (ti P e).size)) [] [] :=
  OpSem.pure fun w0 X D0 D ρ a w hs => by
    have h2 := evO_rep hs x
    have h3 := evO_rep hs y
    rw [hx] at h2
    rw [hy] at h3
    simp only [SRep, Rep] at h2 h3
    obtain ⟨g, hg, hv⟩ := h2
    have hu : P.underlying t = some (.array len e) := by
      unfold ti at hk
      split at hk
      · simp only at hk
        split at hk <;> simp_all
      · simp at hk
    refine ⟨.pointer (some (Addr.add ⟨g, off, none⟩ (n.toNat * (ti P e).size))), by simp [execOp, ho, hv, h3, Instr.indexAt, asIntOf, run_underlying hu, Instr.sureAddr, h0, h1, run_sizeOf' hok], ?_⟩
    simp only [SRep]
    exact ⟨g, hg, by rw [addr_add rfl]⟩
/-- A byte of a string. -/
theorem sem_index_str {x y : Operand} {t : TypeId} {k : IntKind} {n : Int} {s : ByteArray} {b : UInt8} (ho : o.op = .index t x y) (hx : evO E x = .d (.str s)) (hy : evO E y = .d (.int k n)) (hk : (ti P t).kind = .str) (h0 : 0 ≤ n) (hb : s[n.toNat]? = some b) :
    OpSem P o L E σ (.d (.int .u8 b.toNat)) [] [] :=
  OpSem.pure fun w0 X D0 D ρ a w hs => by
    have h2 := evO_rep hs x
    have h3 := evO_rep hs y
    rw [hx] at h2
    rw [hy] at h3
    simp only [SRep, Rep] at h2 h3
    have hu : P.underlying t = some .string := by
      unfold ti at hk
      split at hk
      · simp only at hk
        split at hk <;> simp_all
      · simp at hk
    exact ⟨.int .u8 b.toNat, by simp [execOp, ho, h2, h3, Instr.index, asIntOf, run_underlying hu, h0, hb], by simp [SRep, Rep]⟩
end
end Go.Proofs.Ytikfkipalifohaa.A
