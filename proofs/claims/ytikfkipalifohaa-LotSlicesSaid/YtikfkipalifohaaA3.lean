/- The layer, part 3: operations that make memory, or write it. -/
import Derived.Test.YtikfkipalifohaaA2
import Derived.Maps.AppendAt
namespace Go.Proofs.Ytikfkipalifohaa.A
open Go Go.RowKit

/-- Which blocks an operation may write, and which numbers' blocks it makes anew. -/
structure Chg (w w' : World) (D : Nat → Prop) (ρ ρ' : Nat → Option (Option Nat)) (σ σ' : Nat → Option Blk) (T : Nat → Prop) (N : Nat → Prop) : Prop where
  rr : ∀ i r, ρ i = some r → ρ' i = some r
  size : w.heap.size ≤ w'.heap.size
  keep : ∀ k, k < w.heap.size → ¬ T k → w'.heap[k]? = w.heap[k]?
  hD : ∀ k, D k → ¬ T k
  old : ∀ i b, ¬ N i → σ' i = some b → σ i = some b ∧ ∀ g, b.live = true → ρ i = some (some g) → ¬ T g
  own : ∀ i r v, N i → ρ i = some r → OwnOK w D (σ i) r v → OwnOK w' D (σ' i) r v
  elt : ∀ i g j off v, N i → ρ i = some (some g) → EltOK (σ i) g j off v → EltOK (σ' i) g j off v

theorem hao (w : World) (o : Obj) (k : Nat) (h : k < w.heap.size) : (w.alloc o).heap[k]? = w.heap[k]? := Below.heap_alloc w o k h
theorem heap_lt {w : World} {g : Nat} {ob : Obj} (h : w.heap[g]? = some ob) : g < w.heap.size := (Array.getElem?_eq_some_iff.1 h).1

section
variable {w0 w w' : World} {X : Nat → Prop} {D0 : Base} {L D : Nat → Prop} {ρ ρ' : Nat → Option (Option Nat)} {E : Nat → SV} {σ σ' : Nat → Option Blk} {a : Act} {T N : Nat → Prop}
theorem Chg.same (h : StD w0 X D0 L D ρ E σ a w) (c : Chg w w' D ρ ρ' σ σ' T N) : Same D w w' := fun k hk => c.keep k (h.dlt k hk) (c.hD k hk)
theorem Chg.mv (h : StD w0 X D0 L D ρ E σ a w) (c : Chg w w' D ρ ρ' σ σ' T N) : Mv w w' D D ρ ρ' σ σ' := by
  have hs := c.same h
  refine ⟨hs, fun _ h => h, c.rr, fun i r v hr ho => ?_, fun i g j off v hr he => ?_⟩
  · by_cases hn : N i
    · exact c.own i r v hn hr ho
    · refine ⟨fun T' sz rows hb => ?_, fun rows hb => ?_⟩
      · obtain ⟨h1, h2⟩ := c.old i _ hn hb
        rcases ho.1 T' sz rows h1 with h3 | ⟨g, cap, arr, rfl, hv, hh, rest⟩
        · exact .inl h3
        · exact .inr ⟨g, cap, arr, rfl, hv, by rw [c.keep g (heap_lt hh) (h2 g rfl hr)]; exact hh, rest⟩
      · obtain ⟨h1, _⟩ := c.old i _ hn hb
        exact Rep.mono hs (fun _ h => h) _ _ (ho.2 rows h1)
  · by_cases hn : N i
    · exact c.elt i g j off v hn hr he
    · intro T' sz rows hb
      exact he T' sz rows (c.old i _ hn hb).1
theorem RowIn.keep {g : Nat} {T' : TypeId} {sz : Nat} {rows : List (List PV)} (hs : Same D w w') (hg : w'.heap[g]? = w.heap[g]?) (h : RowIn w D g T' sz rows) : RowIn w' D g T' sz rows := by
  obtain ⟨arr, cap, h1, h2, h3, h4, h5, h6⟩ := h
  refine ⟨arr, cap, by rw [hg]; exact h1, h2, h3, h4, h5, RepRows.of_get fun j r hj => ?_⟩
  obtain ⟨k1, k2⟩ := h6.get j r hj
  refine ⟨k1, RepCells.of_get fun q p hq => ?_⟩
  obtain ⟨v, k3, k4⟩ := k2.get q p hq
  exact ⟨v, (World.cell?_of_block (w := w) (by rw [add_block]; exact hg)).trans k3, Rep.mono hs (fun _ h => h) p v k4⟩
theorem StD.change (h : StD w0 X D0 L D ρ E σ a w) (c : Chg w w' D ρ ρ' σ σ' T N) {L' : Nat → Prop} (hg : ∀ i r, ρ' i = some r → L' i) (hk : Kept w0 w' X)
    (blkN : ∀ i b, N i → σ' i = some b → BRep w' D ρ' σ' i b)
    (apartN : ∀ i b g, N i → σ' i = some b → b.live = true → ρ' i = some (some g) → ¬ D g ∧ Mine w0 X g ∧ g < w'.heap.size)
    (rrb : ∀ i, ¬ N i → ∀ r, ρ' i = some r → σ' i ≠ none → ρ i = some r)
    (injN : ∀ i j b d g, N i → σ' i = some b → σ' j = some d → b.live = true → d.live = true → ρ' i = some (some g) → ρ' j = some (some g) → i = j) : StD w0 X D0 L' D ρ' E σ' a w' := by
  have mv := c.mv h
  have hs := c.same h
  refine ⟨fun t => (SRep.mv mv _ _ (h.slots t)), h.ndef, hk, fun k hk => Nat.lt_of_lt_of_le (h.dlt k hk) c.size, h.dold, h.dnew, fun i r hr => c.rr i r (h.fix i r hr), hg, fun i b hb => ?_, fun i b g hb hl hr => ?_, fun i j b d g hb hd hl1 hl2 hr1 hr2 => ?_⟩
  · by_cases hn : N i
    · exact blkN i b hn hb
    · obtain ⟨h1, h2⟩ := c.old i b hn hb
      have hB := h.blk i b h1
      cases b with
      | box cs =>
        obtain ⟨g, arr, T', k1, k2, k3, k4⟩ := hB
        exact ⟨g, arr, T', c.rr i _ k1, by rw [c.keep g (heap_lt k2) (h2 g rfl k1)]; exact k2, SReps.mv mv _ _ k3, k4⟩
      | row T' sz rows =>
        obtain ⟨r, k1, k2⟩ := hB
        refine ⟨r, c.rr i _ k1, ?_⟩
        cases r with
        | none => exact k2
        | some g =>
          have hlt : g < w.heap.size := (h.apart i _ g h1 rfl k1).2.2
          exact RowIn.keep hs (c.keep g hlt (h2 g rfl k1)) k2
      | ice rows =>
        obtain ⟨r, k1⟩ := hB
        exact ⟨r, c.rr i _ k1⟩
  · by_cases hn : N i
    · exact apartN i b g hn hb hl hr
    · obtain ⟨h1, h2⟩ := c.old i b hn hb
      have hr' := rrb i hn _ hr (by rw [hb]; simp)
      obtain ⟨k1, k2, k3⟩ := h.apart i b g h1 hl hr'
      exact ⟨k1, k2, Nat.lt_of_lt_of_le k3 c.size⟩
  · by_cases hn : N i
    · exact injN i j b d g hn hb hd hl1 hl2 hr1 hr2
    · by_cases hn2 : N j
      · exact (injN j i d b g hn2 hd hb hl2 hl1 hr2 hr1).symm
      · obtain ⟨h1, _⟩ := c.old i b hn hb
        obtain ⟨h2, _⟩ := c.old j d hn2 hd
        exact h.inj i j b d g h1 h2 hl1 hl2 (rrb i hn _ hr1 (by rw [hb]; simp)) (rrb j hn2 _ hr2 (by rw [hd]; simp))

/-- A number's block. -/
def setR (ρ : Nat → Option (Option Nat)) (m : Nat) (r : Option Nat) : Nat → Option (Option Nat) := fun i => if m = i then some r else ρ i
def setB (σ : Nat → Option Blk) (m : Nat) (b : Option Blk) : Nat → Option Blk := fun i => if m = i then b else σ i

theorem Kept.alloc (h : Kept w0 w X) (o : Obj) : Kept w0 (w.alloc o) X :=
  ⟨h.os, h.tape, h.output, by have := h.size; simp; omega, fun k hk hx => (hao w o k (Nat.lt_of_lt_of_le hk h.size)).trans (h.block k hk hx)⟩
/-- A new block. -/
theorem StD.alloc (h : StD w0 X D0 L D ρ E σ a w) {m : Nat} (hm : ¬ L m) (arr : Array Value) (T' : TypeId) (b : Blk)
    (hb : BRep (w.alloc (.cells arr T')) D (setR ρ m (some w.heap.size)) (setB σ m (some b)) m b) :
    StD w0 X D0 (fun i => L i ∨ i ∈ [m]) D (setR ρ m (some w.heap.size)) E (setB σ m (some b)) a (w.alloc (.cells arr T')) := by
  have c : Chg w (w.alloc (.cells arr T')) D ρ (setR ρ m (some w.heap.size)) σ (setB σ m (some b)) (fun _ => False) (fun i => i = m) := by
    refine ⟨fun i r hr => ?_, by simp, fun k hk _ => hao w _ k hk, fun _ _ h => h, fun i b' hn hb' => ?_, fun i r v hn hr _ => ?_, fun i g j off v hn hr _ => ?_⟩
    · have : m ≠ i := fun e => hm (e ▸ h.given i r hr)
      simp [setR, this, hr]
    · have : m ≠ i := fun e => hn e.symm
      simp only [setB, if_neg this] at hb'
      exact ⟨hb', fun _ _ _ h => h⟩
    · exact absurd (hn ▸ h.given i r hr) hm
    · exact absurd (hn ▸ h.given i _ hr) hm
  refine h.change c (fun i r hr => ?_) (h.kept.alloc _) (fun i b' hn hb' => ?_) (fun i b' g hn hb' hl hr => ?_) (fun i hn r hr _ => ?_) (fun i j b1 b2 g hn h1 h2 l1 l2 r1 r2 => ?_)
  · by_cases e : m = i
    · exact .inr (by simp [e])
    · simp only [setR, if_neg e] at hr
      exact .inl (h.given i r hr)
  · subst hn
    simp only [setB, if_true, Option.some.injEq] at hb'
    subst hb'
    exact hb
  · subst hn
    simp only [setR, if_true, Option.some.injEq] at hr
    subst hr
    exact ⟨fun hd => absurd (h.dlt _ hd) (Nat.lt_irrefl _), .inl h.kept.size, by simp⟩
  · have : m ≠ i := fun e => hn e.symm
    simpa [setR, this] using hr
  · subst hn
    by_cases e : i = j
    · exact e
    · simp only [setR, if_true, Option.some.injEq] at r1
      subst r1
      simp only [setR, if_neg e] at r2
      simp only [setB, if_neg e] at h2
      exact absurd (h.apart j b2 _ h2 l2 r2).2.2 (Nat.lt_irrefl _)
end

/-- From a state to the state behind an operation that gives a value. -/
theorem OpSem.of_run {P : Program} {o : Oper} {L : Nat → Prop} {E : Nat → SV} {σ : Nat → Option Blk} {x : SV} {wr : Sto} {m : List Nat}
    (h : ∀ w0 X D0 D ρ a w, StD w0 X D0 L D ρ E σ a w → ∃ v w' D' ρ', (execOp a.eval o).run P w = .ok (.value v) w' ∧ StD w0 X D0 (fun i => L i ∨ i ∈ m) D' ρ' E (updB σ wr) a w' ∧ SRep w' D' ρ' (updB σ wr) x v) : OpSem P o L E σ x wr m := by
  intro w0 X D0 a w ⟨D, ρ, hs⟩ hd
  obtain ⟨v, w', D', ρ', hr, h1, h2⟩ := h _ _ _ _ _ _ _ hs
  unfold Oper.wp
  rw [hr]
  simp only [Oper.upon]
  exact ⟨put_size _ _ _, D', ρ', h1.put o.dst hd h2⟩
theorem OpSem.of_skip {P : Program} {o : Oper} {L : Nat → Prop} {E : Nat → SV} {σ : Nat → Option Blk} {wr : Sto} {m : List Nat}
    (h : ∀ w0 X D0 D ρ a w, StD w0 X D0 L D ρ E σ a w → ∃ w' D' ρ', (execOp a.eval o).run P w = .ok .skip w' ∧ StD w0 X D0 (fun i => L i ∨ i ∈ m) D' ρ' E (updB σ wr) a w') : OpSem P o L E σ .junk wr m := by
  intro w0 X D0 a w ⟨D, ρ, hs⟩ hd
  obtain ⟨w', D', ρ', hr, h1⟩ := h _ _ _ _ _ _ _ hs
  unfold Oper.wp
  rw [hr]
  simp only [Oper.upon]
  exact ⟨put_size _ _ _, D', ρ', h1.put o.dst hd (by simp [SRep])⟩

theorem updB_one (σ : Nat → Option Blk) (m : Nat) (b : Option Blk) : updB σ [(m, b)] = setB σ m b := by
  funext j; simp [updB, setB]

section
variable {P : Program} {o : Oper} {L : Nat → Prop} {E : Nat → SV} {σ : Nat → Option Blk}
theorem csts_rep {w : World} {D : Nat → Prop} {ρ : Nat → Option (Option Nat)} (vs : List Value) : SReps w D ρ σ (vs.map cst) vs := by
  induction vs with
  | nil => simp [SReps]
  | cons v vs ih => simp only [List.map_cons, SReps]; exact ⟨v, vs, rfl, cst_rep v, ih⟩
/-- Is each of one cell? (asked of constants) -/
def oneB : SV → Bool
  | .d _ | .nils | .ptr _ _ | .own _ => true
  | _ => false
theorem one_rep {w : World} {D : Nat → Prop} {ρ : Nat → Option (Option Nat)} {x : SV} {v : Value} (h : SRep w D ρ σ x v) (hx : oneB x = true) (hl : ∀ i, x = .own i → (∃ T sz rows, σ i = some (.row T sz rows)) ∨ ∃ rows, σ i = some (.ice rows)) : v.oneCell' = true := by
  cases x <;> simp only [oneB, Bool.false_eq_true] at hx
  case d p => simp only [SRep] at h; exact Rep.oneCell h
  case nils => simp only [SRep] at h; subst h; rfl
  case ptr i off => simp only [SRep] at h; obtain ⟨g, _, rfl⟩ := h; rfl
  case own i =>
    simp only [SRep] at h
    obtain ⟨r, _, h1, h2⟩ := h
    rcases hl i rfl with ⟨T, sz, rows, hb⟩ | ⟨rows, hb⟩
    · rcases h1 T sz rows hb with ⟨_, rfl⟩ | ⟨_, _, _, _, rfl, _⟩ <;> rfl
    · exact Rep.oneCell (h2 rows hb)
theorem newVar_run (t : TypeId) (v : Value) (w : World) : (newVar t v).run P w = .ok ⟨w.heap.size, 0, none⟩ (w.alloc (.cells v.cells t)) := by
  simp [newVar, newRow]
theorem setR_self (ρ : Nat → Option (Option Nat)) (m : Nat) (r : Option Nat) : setR ρ m r m = some r := by simp [setR]
theorem setB_self (σ : Nat → Option Blk) (m : Nat) (r : Option Blk) : setB σ m r m = r := by simp [setB]
theorem alloc_mv {w0 w : World} {X : Nat → Prop} {D0 : Base} {D : Nat → Prop} {ρ : Nat → Option (Option Nat)} {a : Act} (h : StD w0 X D0 L D ρ E σ a w) {m : Nat} (hm : ¬ L m) (ob : Obj) (b : Blk) : Mv w (w.alloc ob) D D ρ (setR ρ m (some w.heap.size)) σ (setB σ m (some b)) := by
  have hne : ∀ i r, ρ i = some r → m ≠ i := fun i r hr e => hm (e ▸ h.given i r hr)
  have hs : Same D w (w.alloc ob) := fun k hk => hao w _ k (h.dlt k hk)
  refine ⟨hs, fun _ h => h, fun i r hr => by simp [setR, hne i r hr, hr], fun i r v hr ho => ?_, fun i g j off v hr he => ?_⟩
  · simp only [setB, if_neg (hne i r hr)]
    refine ⟨fun T' sz rows hb => ?_, fun rows hb => Rep.mono hs (fun _ h => h) _ _ (ho.2 rows hb)⟩
    rcases ho.1 T' sz rows hb with h3 | ⟨g, cap, arr, rfl, hv, hh, rest⟩
    · exact .inl h3
    · exact .inr ⟨g, cap, arr, rfl, hv, by rw [hao w _ g (heap_lt hh)]; exact hh, rest⟩
  · simpa only [setB, if_neg (hne i _ hr)] using he
theorem sem_alloc {t : TypeId} {m : Nat} (ho : o.op = .alloc t) (ht : (ti P t).ok = true) (hone : (ti P t).zero.all oneB = true) (hown : (ti P t).zero.all (fun x => match x with | .own _ => false | _ => true) = true) (hm : ¬ L m) :
    OpSem P o L E σ (.ptr m 0) [(m, some (.box (ti P t).zero))] [m] :=
  OpSem.of_run fun w0 X D0 D ρ a w hs => by
    obtain ⟨i, d, z, h1, h2, h3, h4, h5, h6, _⟩ := ti_spec ht
    rw [updB_one]
    have hz : (zeroValue t).run P w = .ok z w := by simp [zeroValue, typeInfo, h1, h3]
    refine ⟨.pointer (some ⟨w.heap.size, 0, none⟩), _, D, setR ρ m (some w.heap.size), ?_, hs.alloc hm z.cells t (.box (ti P t).zero) ?_, ?_⟩
    · simp [execOp, ho, Instr.alloc, hz, newVar_run]
    · rw [h6]
      refine ⟨w.heap.size, z.cells, t, setR_self _ _ _, heap_alloc_new w _, csts_rep _, fun u hu => ?_⟩
      obtain ⟨j, hj, rfl⟩ := Array.mem_iff_getElem.1 hu
      rw [h6] at hone hown
      have hmem : cst z.cells[j] ∈ z.cells.toList.map cst := List.mem_map.2 ⟨_, by simp, rfl⟩
      exact one_rep (σ := σ) (ρ := ρ) (w := w) (D := D) (cst_rep _) (List.all_eq_true.1 hone _ hmem) (fun i e => by
        have := List.all_eq_true.1 hown _ hmem
        rw [e] at this
        simp at this)
    · simp only [SRep]
      exact ⟨w.heap.size, setR_self _ _ _, rfl⟩
/-- A value's cells. -/
def cellsS : SV → List SV
  | .agg cs => cs
  | x => [x]
def ownOK (σ : Nat → Option Blk) : SV → Bool
  | .own i => match σ i with
    | some (.row _ _ _) => true
    | some (.ice _) => true
    | _ => false
  | _ => true
theorem one_rep' {w : World} {D : Nat → Prop} {ρ : Nat → Option (Option Nat)} {x : SV} {v : Value} (h : SRep w D ρ σ x v) (hx : oneB x = true) (hl : ownOK σ x = true) : v.oneCell' = true :=
  one_rep h hx fun i e => by
    subst e
    simp only [ownOK] at hl
    split at hl
    · exact .inl ⟨_, _, _, by assumption⟩
    · exact .inr ⟨_, by assumption⟩
    · cases hl
theorem cells_rep {w : World} {D : Nat → Prop} {ρ : Nat → Option (Option Nat)} {x : SV} {v : Value} (h : SRep w D ρ σ x v) (hx : (cellsS x).all oneB = true) (hl : (cellsS x).all (ownOK σ) = true) : SReps w D ρ σ (cellsS x) v.cells.toList ∧ ∀ u ∈ v.cells, u.oneCell' = true := by
  have one : ∀ {x : SV} {v : Value}, SRep w D ρ σ x v → oneB x = true → ownOK σ x = true → (∀ cs, x ≠ .agg cs) → SReps w D ρ σ [x] v.cells.toList ∧ ∀ u ∈ v.cells, u.oneCell' = true := by
    intro x v h h1 h2 _
    have h3 := one_rep' h h1 h2
    have h4 : v.cells = #[v] := by cases v <;> first | rfl | simp [Value.oneCell'] at h3
    rw [h4]
    refine ⟨?_, fun u hu => by simp at hu; subst hu; exact h3⟩
    simp only [SReps]
    exact ⟨v, [], rfl, h, rfl⟩
  cases x with
  | agg cs =>
    simp only [SRep] at h
    obtain ⟨arr, rfl, hr⟩ := h
    simp only [cellsS] at hx hl ⊢
    refine ⟨hr, fun u hu => ?_⟩
    obtain ⟨j, hj, rfl⟩ := Array.mem_iff_getElem.1 hu
    have hl' := hr.length
    have hj' : j < arr.size := hj
    have hjc : j < cs.length := by simp at hl'; omega
    obtain ⟨v, h1, h2⟩ := hr.get j cs[j] (List.getElem?_eq_getElem hjc)
    have : arr[j] = v := by
      have h3 : arr.toList[j]? = some arr[j] := by simp [hj']
      rw [h3] at h1
      injection h1
    show arr[j].oneCell' = true
    rw [this]
    exact one_rep' h2 (List.all_eq_true.1 hx _ (List.getElem_mem hjc)) (List.all_eq_true.1 hl _ (List.getElem_mem hjc))
  | junk => simp [cellsS, oneB] at hx
  | tup _ => simp [cellsS, oneB] at hx
  | elt _ => simp [cellsS, oneB] at hx
  | oelt _ _ _ => simp [cellsS, oneB] at hx
  | view _ _ _ => simp [cellsS, oneB] at hx
  | fresh _ _ _ => simp [cellsS, oneB] at hx
  | pbox _ => simp [cellsS, oneB] at hx
  | sbox _ _ => simp [cellsS, oneB] at hx
  | d p => simp only [cellsS, List.all_cons, List.all_nil, Bool.and_true] at hx hl ⊢; exact one h hx hl (by simp)
  | nils => simp only [cellsS, List.all_cons, List.all_nil, Bool.and_true] at hx hl ⊢; exact one h hx hl (by simp)
  | own i => simp only [cellsS, List.all_cons, List.all_nil, Bool.and_true] at hx hl ⊢; exact one h hx hl (by simp)
  | ptr i off => simp only [cellsS, List.all_cons, List.all_nil, Bool.and_true] at hx hl ⊢; exact one h hx hl (by simp)
theorem sem_box {t : TypeId} {x : Operand} {m : Nat} (ho : o.op = .box t x) (hone : (cellsS (evO E x)).all oneB = true) (hown : (cellsS (evO E x)).all (ownOK σ) = true) (hm : ¬ L m) :
    OpSem P o L E σ (.ptr m 0) [(m, some (.box (cellsS (evO E x))))] [m] :=
  OpSem.of_run fun w0 X D0 D ρ a w hs => by
    rw [updB_one]
    obtain ⟨h1, h2⟩ := cells_rep (evO_rep hs x) hone hown
    refine ⟨.pointer (some ⟨w.heap.size, 0, none⟩), _, D, setR ρ m (some w.heap.size), ?_, hs.alloc hm (a.eval x).cells t (.box (cellsS (evO E x))) ?_, ?_⟩
    · simp [execOp, ho, Instr.box, newVar_run]
    · exact ⟨w.heap.size, _, t, setR_self _ _ _, heap_alloc_new w _, SReps.mv (alloc_mv hs hm _ _) _ _ h1, h2⟩
    · simp only [SRep]
      exact ⟨w.heap.size, setR_self _ _ _, rfl⟩

/-! ### Stores -/
theorem Kept.setRow {w0 w : World} {X : Nat → Prop} (h : Kept w0 w X) {g : Nat} (hg : Mine w0 X g) (arr : Array Value) : Kept w0 (w.setRow g arr) X :=
  ⟨h.os, h.tape, h.output, by simpa using h.size, fun k hk hx => by
    have : k ≠ g := fun e => by rcases hg with hg | hg; exact absurd hk (by omega); exact hx (e ▸ hg)
    rw [setRow_other w g k _ this]
    exact h.block k hk hx⟩
/-- Cells written into a list. -/
def splice {α : Type} (l : List α) (o : Nat) (new : List α) : List α := l.take o ++ new ++ l.drop (o + new.length)
theorem splice_get {α : Type} {l : List α} {o : Nat} {new : List α} (h : o + new.length ≤ l.length) (j : Nat) : (splice l o new)[j]? = if j < o then l[j]? else if j < o + new.length then new[j - o]? else l[j]? := by
  have h1 : (l.take o).length = o := by simp; omega
  unfold splice
  by_cases c1 : j < o
  · rw [if_pos c1, List.append_assoc, List.getElem?_append_left (by omega), List.getElem?_take, if_pos c1]
  · rw [if_neg c1]
    by_cases c2 : j < o + new.length
    · rw [if_pos c2, List.getElem?_append_left (by simp; omega), List.getElem?_append_right (by omega), h1]
    · rw [if_neg c2, List.getElem?_append_right (by simp; omega), List.getElem?_drop]
      congr 1
      simp
      omega
theorem splice_length {α : Type} {l : List α} {o : Nat} {new : List α} (h : o + new.length ≤ l.length) : (splice l o new).length = l.length := by
  unfold splice
  simp
  omega
theorem SReps.splice {w : World} {D : Nat → Prop} {ρ : Nat → Option (Option Nat)} {cs ns : List SV} {vs us : List Value} {o : Nat} (h1 : SReps w D ρ σ cs vs) (h2 : SReps w D ρ σ ns us) (h : o + ns.length ≤ cs.length) : SReps w D ρ σ (splice cs o ns) (splice vs o us) := by
  have l1 := h1.length
  have l2 := h2.length
  refine SReps.of_get (by rw [splice_length h, splice_length (by omega)]; exact l1) fun j x v hx hv => ?_
  rw [splice_get h] at hx
  rw [splice_get (by omega), l2] at hv
  split at hx
  · rw [if_pos (by assumption)] at hv
    obtain ⟨v', e, r⟩ := h1.get j x hx
    rw [e] at hv; injection hv with hv; subst hv; exact r
  · rename_i c1
    rw [if_neg c1] at hv
    split at hx
    · rw [if_pos (by assumption)] at hv
      obtain ⟨v', e, r⟩ := h2.get _ x hx
      rw [e] at hv; injection hv with hv; subst hv; exact r
    · rename_i c2
      rw [if_neg c2] at hv
      obtain ⟨v', e, r⟩ := h1.get j x hx
      rw [e] at hv; injection hv with hv; subst hv; exact r
theorem run_storeVar' {t : TypeId} {w : World} {g off : Nat} {T : TypeId} {arr : Array Value} {v : Value} (ht : (ti P t).ok = true) (hh : w.heap[g]? = some (.cells arr T (0, 0))) (hsz : v.cells.size = (ti P t).size) (h1 : ∀ u ∈ v.cells, u.oneCell' = true) (hl : off + v.cells.size ≤ arr.size) :
    (storeVar t ⟨g, off, none⟩ v).run P w = .ok () (w.setRow g (splice arr.toList off v.cells.toList).toArray) := by
  have := run_storeCells_at P g off T v.cells.toList 0 arr w hh (by simpa using hl) (fun u hu => h1 u (Array.mem_toList_iff.1 hu))
  simp only [Nat.add_zero, Array.length_toList] at this
  simp only [storeVar, Sem.run_bind, run_sizeOf' ht, Result.andThen_ok, hsz]
  simp only [ne_eq, not_true_eq_false, if_false]
  rw [this]
  rw [hsz, splice, Array.length_toList, hsz]
theorem sem_store_box {x y : Operand} {t : TypeId} {i off : Nat} {cs : List SV} (ho : o.op = .store t x y) (hx : evO E x = .ptr i off) (hb : σ i = some (.box cs)) (ht : (ti P t).ok = true)
    (hone : (cellsS (evO E y)).all oneB = true) (hown : (cellsS (evO E y)).all (ownOK σ) = true) (hsz : (cellsS (evO E y)).length = (ti P t).size) (hl : off + (cellsS (evO E y)).length ≤ cs.length) :
    OpSem P o L E σ .junk [(i, some (.box (splice cs off (cellsS (evO E y)))))] [] :=
  OpSem.of_skip fun w0 X D0 D ρ a w hs => by
    rw [updB_one]
    obtain ⟨g, arr, T, hg, hv, hh, hr, h1⟩ := eval_ptr hs hx hb
    obtain ⟨k1, k2⟩ := cells_rep (evO_rep hs y) hone hown
    have l1 := hr.length
    have l2 := k1.length
    simp only [Array.length_toList] at l1 l2
    obtain ⟨hD, hM, hlt⟩ := hs.apart i _ g hb rfl hg
    have hrun := run_storeVar' (P := P) (t := t) (v := a.eval y) (off := off) ht hh (by omega) k2 (by omega)
    refine ⟨w.setRow g (splice arr.toList off (a.eval y).cells.toList).toArray, D, ρ, by simp only [execOp, ho, Instr.storeAt, hv, Instr.sureAddr, Sem.run_bind, Sem.run_pure, Result.andThen_ok, hrun], ?_⟩
    have c : Chg w (w.setRow g (splice arr.toList off (a.eval y).cells.toList).toArray) D ρ ρ σ (setB σ i (some (.box (splice cs off (cellsS (evO E y)))))) (fun k => k = g) (fun j => j = i) := by
      refine ⟨fun _ _ h => h, by simp, fun k _ hk => setRow_other w g k _ hk, fun k hk e => hD (e ▸ hk), fun j b hn hb' => ?_, fun j r v hn _ _ => ?_, fun j g' q off' v hn _ _ => ?_⟩
      · have hne : i ≠ j := fun e => hn e.symm
        simp only [setB, if_neg hne] at hb'
        exact ⟨hb', fun g' hl' hr' e => hne (hs.inj i j _ _ g hb hb' rfl hl' hg (e ▸ hr'))⟩
      · subst hn
        simp only [setB, if_true]
        exact ⟨fun _ _ _ h => by simp at h, fun _ h => by simp at h⟩
      · subst hn
        simp only [setB, if_true]
        intro _ _ _ h
        simp at h
    refine (hs.change c (fun j r hr' => .inl (hs.given j r hr')) (hs.kept.setRow hM _) (fun j b hn hb' => ?_) (fun j b g' hn hb' _ hr' => ?_) (fun j _ r hr' _ => hr') (fun j q b d g' hn h2 h3 l3 l4 r1 r2 => ?_))
    · subst hn
      simp only [setB, if_true, Option.some.injEq] at hb'
      subst hb'
      refine ⟨g, _, T, hg, setRow_heap w g arr _ T _ hh, ?_, fun u hu => ?_⟩
      · exact SReps.splice (SReps.mv (c.mv hs) _ _ hr) (SReps.mv (c.mv hs) _ _ k1) hl
      · have hu' : u ∈ splice arr.toList off (a.eval y).cells.toList := by simpa using hu
        unfold splice at hu'
        rcases List.mem_append.1 hu' with hu' | hu'
        · rcases List.mem_append.1 hu' with hu' | hu'
          · exact h1 u (Array.mem_toList_iff.1 (List.mem_of_mem_take hu'))
          · exact k2 u (Array.mem_toList_iff.1 hu')
        · exact h1 u (Array.mem_toList_iff.1 (List.mem_of_mem_drop hu'))
    · subst hn
      rw [hg] at hr'
      injection hr' with hr'
      injection hr' with hr'
      subst hr'
      exact ⟨hD, hM, by simpa using hlt⟩
    · subst hn
      by_cases e : j = q
      · exact e
      · simp only [setB, if_neg e] at h3
        exact hs.inj j q _ _ g' hb h3 rfl l4 r1 r2
end
end Go.Proofs.Ytikfkipalifohaa.A
