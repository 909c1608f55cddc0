/- The layer, part 5: literals, make, stores into rows, comparisons. -/
import Derived.Test.YtikfkipalifohaaA4
namespace Go.Proofs.Ytikfkipalifohaa.A
open Go Go.RowKit

section
variable {P : Program} {o : Oper} {L : Nat → Prop} {E : Nat → SV} {σ : Nat → Option Blk}

/-- Parts laid into cells. -/
def fillS (place : Nat → Option (Nat × Nat)) (cs : List SV) : List (Nat × SV) → Option (List SV)
  | [] => some cs
  | (i, x) :: rest => match place i with
    | none => none
    | some (off, size) => if (cellsS x).length ≠ size ∨ off + size > cs.length then none else fillS place (splice cs off (cellsS x)) rest
theorem fold_splice : ∀ (l : List Value) (cs : Array Value) (off j : Nat), off + j + l.length ≤ cs.size →
    ((l.zipIdx j).foldl (fun cs (c : Value × Nat) => cs.setIfInBounds (off + c.2) c.1) cs).toList = splice cs.toList (off + j) l
  | [], cs, off, j, _ => by simp [splice]
  | v :: l, cs, off, j, h => by
    simp only [List.length_cons] at h
    rw [List.zipIdx_cons, List.foldl_cons, fold_splice l _ off (j + 1) (by simp; omega)]
    apply List.ext_getElem?
    intro q
    rw [splice_get (by simp; omega), splice_get (by simp; omega)]
    simp only [Array.toList_setIfInBounds, List.length_cons]
    by_cases c1 : q < off + j
    · rw [if_pos (by omega), if_pos c1, List.getElem?_set_ne (by omega)]
    · rw [if_neg c1]
      by_cases c2 : q = off + j
      · subst c2
        rw [if_pos (by omega), if_pos (by omega), List.getElem?_set_self (by simp; omega)]
        simp
      · rw [if_neg (by omega)]
        by_cases c3 : q < off + (j + 1) + l.length
        · rw [if_pos c3, if_pos (by omega)]
          have : q - (off + j) = (q - (off + (j + 1))) + 1 := by omega
          rw [this, List.getElem?_cons_succ]
        · rw [if_neg c3, if_neg (by omega), List.getElem?_set_ne (by omega)]
theorem fill_rep {w : World} {D : Nat → Prop} {ρ : Nat → Option (Option Nat)} (place : Nat → Option (Nat × Nat)) : ∀ (xs : List (Nat × SV)) (ys : List (Nat × Value)) (cs : List SV) (vs : Array Value) (cs' : List SV),
    fillS place cs xs = some cs' → SReps w D ρ σ cs vs.toList → xs.length = ys.length → (∀ (j : Nat) (x : Nat × SV) (y : Nat × Value), xs[j]? = some x → ys[j]? = some y → x.1 = y.1 ∧ SReps w D ρ σ (cellsS x.2) y.2.cells.toList) →
    ∃ vs', Instr.fill place vs ys = some vs' ∧ SReps w D ρ σ cs' vs'.toList
  | [], [], cs, vs, cs', h, hr, _, _ => by
    simp only [fillS, Option.some.injEq] at h
    subst h
    exact ⟨vs, rfl, hr⟩
  | [], y :: ys, _, _, _, _, _, hl, _ => by simp at hl
  | x :: xs, [], _, _, _, _, _, hl, _ => by simp at hl
  | (i, x) :: xs, (i', v) :: ys, cs, vs, cs', h, hr, hl, hp => by
    obtain ⟨e, hx⟩ := hp 0 (i, x) (i', v) rfl rfl
    simp only at e hx
    subst e
    simp only [fillS] at h
    cases hpl : place i with
    | none => simp [hpl] at h
    | some os =>
      obtain ⟨off, size⟩ := os
      simp only [hpl] at h
      split at h
      · cases h
      · rename_i hc
        have l1 := hr.length
        have l2 := hx.length
        simp only [Array.length_toList] at l1 l2
        have c1 : v.cells.size = size := by omega
        have c2 : ¬ (off + v.cells.size > vs.size) := by omega
        have hfold := fold_splice v.cells.toList vs off 0 (by simp; omega)
        have hz : (v.cells.zipIdx.foldl (fun cs (x : Value × Nat) => cs.setIfInBounds (off + x.2) x.1) vs).toList = splice vs.toList off v.cells.toList := by
          rw [← Array.foldl_toList, Array.toList_zipIdx]
          simpa using hfold
        have hr2 : SReps w D ρ σ (splice cs off (cellsS x)) (v.cells.zipIdx.foldl (fun cs (x : Value × Nat) => cs.setIfInBounds (off + x.2) x.1) vs).toList := by
          rw [hz]
          exact hr.splice hx (by omega)
        obtain ⟨vs', k1, k2⟩ := fill_rep place xs ys _ _ cs' h hr2 (by simpa using hl) (fun j x' y' h1 h2 => hp (j + 1) x' y' (by simpa using h1) (by simpa using h2))
        refine ⟨vs', ?_, k2⟩
        simp only [Instr.fill, hpl]
        rw [if_neg (by simp [c1]; omega)]
        exact k1
theorem parts_rep {w0 w : World} {X : Nat → Prop} {D0 : Base} {D : Nat → Prop} {ρ : Nat → Option (Option Nat)} {a : Act} (hs : StD w0 X D0 L D ρ E σ a w) (parts : Array (Nat × Operand)) (h : parts.toList.all (fun p => (cellsS (evO E p.2)).all oneB && (cellsS (evO E p.2)).all (ownOK σ)) = true) (j : Nat) (x : Nat × SV) (y : Nat × Value)
    (hx : (parts.toList.map fun p => (p.1, evO E p.2))[j]? = some x) (hy : (parts.map fun (i, x) => (i, a.eval x)).toList[j]? = some y) : x.1 = y.1 ∧ SReps w D ρ σ (cellsS x.2) y.2.cells.toList := by
  rw [List.getElem?_map] at hx
  rw [Array.toList_map, List.getElem?_map] at hy
  cases hp : parts.toList[j]? with
  | none => simp [hp] at hx
  | some p =>
    simp only [hp, Option.map_some, Option.some.injEq] at hx hy
    subst hx hy
    have := List.all_eq_true.1 h p (List.mem_of_getElem? hp)
    simp only [Bool.and_eq_true] at this
    exact ⟨rfl, (cells_rep (evO_rep hs p.2) this.1 this.2).1⟩
/-- A struct built. -/
theorem sem_build {t : TypeId} {parts : Array (Nat × Operand)} {fs : List (Nat × Nat)} {cs : List SV} (ho : o.op = .build t parts) (ht : (ti P t).ok = true) (hk : (ti P t).kind = .struct fs) (hfs : fs.all (fun f => f.2 != 0) = true)
    (hp : parts.toList.all (fun p => (cellsS (evO E p.2)).all oneB && (cellsS (evO E p.2)).all (ownOK σ)) = true) (hc : fillS (fun i : Nat => fs[i]?) (ti P t).zero (parts.toList.map fun p => (p.1, evO E p.2)) = some cs) : OpSem P o L E σ (.agg cs) [] [] :=
  OpSem.pure fun w0 X D0 D ρ a w hs => by
    obtain ⟨it, d, z, hi, hu, hz, hsz, hby, hzero, _⟩ := ti_spec ht
    obtain ⟨fields, hu', rfl⟩ := ti_struct hk
    rw [hzero] at hc
    obtain ⟨vs', k1, k2⟩ := fill_rep (w := w) (D := D) (ρ := ρ) (σ := σ) _ _ (parts.map fun (i, x) => (i, a.eval x)).toList _ z.cells cs hc (csts_rep _) (by simp) (parts_rep hs parts hp)
    refine ⟨.agg vs', ?_, by simp only [SRep]; exact ⟨_, rfl, k2⟩⟩
    have hb : P.built t (parts.map fun (i, x) => (i, a.eval x)).toList = some vs' := by
      have hm : fields.toList.mapM (fun f => (P.info? f.type).map fun i => (f.offset, i.size)) = some (fields.toList.map fun f => (f.offset, P.cellsOf f.type)) := by
        generalize fields.toList = l at hfs ⊢
        induction l with
        | nil => rfl
        | cons f l ih =>
          simp only [List.map_cons, List.all_cons, Bool.and_eq_true] at hfs
          have hne : P.cellsOf f.type ≠ 0 := by simpa using hfs.1
          obtain ⟨i, h1, h2⟩ := cellsOf_info rfl hne
          simp [List.mapM_cons, h1, h2, ih hfs.2]
      unfold Program.built
      rw [hi, hu']
      simp only [hz, hm]
      have e : (fun i : Nat => (fields.toList.map fun f => (f.offset, P.cellsOf f.type)).toArray[i]?) = fun i : Nat => (fields.toList.map fun f => (f.offset, P.cellsOf f.type))[i]? := by funext i; simp
      rw [e]
      exact k1
    have hrun := run_build (P := P) w t _ vs' hb
    simp only [execOp, ho, Sem.run_bind, Sem.run_pure, Result.andThen_ok, hrun]

/-- Data cells. -/
def datS : SV → Option PV
  | .d p => some p
  | .nils => some (.list [])
  | _ => none
theorem dat_rep {w : World} {D : Nat → Prop} {ρ : Nat → Option (Option Nat)} {x : SV} {p : PV} {v : Value} (h : SRep w D ρ σ x v) (hx : datS x = some p) : Rep w D p v := by
  cases x <;> simp only [datS, Option.some.injEq, reduceCtorEq] at hx
  case d q => subst hx; simpa only [SRep] using h
  case nils => subst hx; simp only [SRep] at h; subst h; simp [Rep]
/-- .. or a slice of the call's own that is never written any more. -/
def datI (σ : Nat → Option Blk) : SV → Option PV
  | .own i => match σ i with
    | some (.ice rows) => some (.list rows)
    | _ => none
  | x => datS x
theorem datI_rep {w : World} {D : Nat → Prop} {ρ : Nat → Option (Option Nat)} {x : SV} {p : PV} {v : Value} (h : SRep w D ρ σ x v) (hx : datI σ x = some p) : Rep w D p v := by
  cases x
  case own i =>
    simp only [datI] at hx
    split at hx
    · rename_i rows hb
      injection hx with hx
      subst hx
      simp only [SRep] at h
      obtain ⟨r, _, _, hI⟩ := h
      exact hI rows hb
    · cases hx
  all_goals exact dat_rep h hx
theorem datsI_rep {w : World} {D : Nat → Prop} {ρ : Nat → Option (Option Nat)} : ∀ {xs : List SV} {ps : List PV} {vs : List Value}, SReps w D ρ σ xs vs → xs.mapM (datI σ) = some ps → CellsV w D ps vs
  | [], ps, vs, h, hp => by
    simp at hp; subst hp
    simp only [SReps] at h; subst h
    exact ⟨rfl, by simp⟩
  | x :: xs, ps, vs, h, hp => by
    simp only [SReps] at h
    obtain ⟨v, vs', rfl, h2, h3⟩ := h
    simp only [List.mapM_cons, Option.bind_eq_bind, Option.pure_def] at hp
    cases hd : datI σ x with
    | none => simp [hd] at hp
    | some p =>
      cases hr : xs.mapM (datI σ) with
      | none => simp [hd, hr] at hp
      | some rest =>
        simp [hd, hr] at hp
        subst hp
        obtain ⟨k1, k2⟩ := datsI_rep h3 hr
        refine ⟨by simp [k1], fun j p' v' hp' hv' => ?_⟩
        cases j with
        | zero => simp at hp' hv'; subst hp' hv'; exact datI_rep h2 hd
        | succ j => exact k2 j p' v' (by simpa using hp') (by simpa using hv')
theorem dats_rep {w : World} {D : Nat → Prop} {ρ : Nat → Option (Option Nat)} : ∀ {xs : List SV} {ps : List PV} {vs : List Value}, SReps w D ρ σ xs vs → xs.mapM datS = some ps → CellsV w D ps vs
  | [], ps, vs, h, hp => by
    simp at hp; subst hp
    simp only [SReps] at h; subst h
    exact ⟨rfl, by simp⟩
  | x :: xs, ps, vs, h, hp => by
    simp only [SReps] at h
    obtain ⟨v, vs', rfl, h2, h3⟩ := h
    simp only [List.mapM_cons, Option.bind_eq_bind, Option.pure_def] at hp
    cases hd : datS x with
    | none => simp [hd] at hp
    | some p =>
      cases hr : xs.mapM datS with
      | none => simp [hd, hr] at hp
      | some rest =>
        simp [hd, hr] at hp
        subst hp
        obtain ⟨k1, k2⟩ := dats_rep h3 hr
        refine ⟨by simp [k1], fun j p' v' hp' hv' => ?_⟩
        cases j with
        | zero => simp at hp' hv'; subst hp' hv'; exact dat_rep h2 hd
        | succ j => exact k2 j p' v' (by simpa using hp') (by simpa using hv')
/-- The rows of a literal's cells. -/
def chop (sz : Nat) : Nat → List PV → List (List PV)
  | 0, _ => []
  | n + 1, ps => ps.take sz :: chop sz n (ps.drop sz)
theorem chop_rows {w : World} {D : Nat → Prop} {sz : Nat} : ∀ (n : Nat) (ps : List PV) (vs : List Value), CellsV w D ps vs → ps.length = n * sz → RowsV w D sz (chop sz n ps) vs
  | 0, ps, vs, h, hl => by
    simp only [chop, RowsV]
    have := h.1
    exact List.eq_nil_of_length_eq_zero (by omega)
  | n + 1, ps, vs, h, hl => by
    rw [Nat.add_mul, Nat.one_mul] at hl
    simp only [chop, RowsV]
    have h1 := h.1
    refine ⟨vs.take sz, vs.drop sz, (List.take_append_drop _ _).symm, by simp; omega, ⟨by simp [h1], fun j p v hp hv => ?_⟩, chop_rows n _ _ ⟨by simp [h1], fun j p v hp hv => ?_⟩ (by simp; omega)⟩
    · rw [List.getElem?_take] at hp hv
      split at hp
      · rw [if_pos (by assumption)] at hv; exact h.2 j p v hp hv
      · cases hp
    · rw [List.getElem?_drop] at hp hv
      exact h.2 _ p v hp hv
theorem chop_length (sz : Nat) : ∀ (n : Nat) (ps : List PV), (chop sz n ps).length = n
  | 0, _ => rfl
  | n + 1, ps => by simp [chop, chop_length sz n]
/-- A slice literal: of nothing, or of data, every place written. -/
theorem sem_buildSlice {t e : TypeId} {sz len m : Nat} {parts : Array (Nat × Operand)} {cs : List SV} {ps : List PV} (ho : o.op = .buildSlice t len parts) (ht : ElT P t e sz) (hlen : len * sz ≤ 2 ^ 24) (hlm : len ≤ maxLen)
    (hp : parts.toList.all (fun p => (cellsS (evO E p.2)).all oneB && (cellsS (evO E p.2)).all (ownOK σ)) = true) (hc : fillS (fun i => some (i * sz, sz)) (List.replicate len (ti P e).zero).flatten (parts.toList.map fun p => (p.1, evO E p.2)) = some cs) (hd : cs.mapM (datI σ) = some ps) (hps : ps.length = len * sz) (hm : ¬ L m) :
    OpSem P o L E σ (.own m) [(m, some (.row e sz (chop sz len ps)))] [m] :=
  OpSem.of_run fun w0 X D0 D ρ a w hs => by
    obtain ⟨it, d, z, hi, hu, hz, hsz, hby, hzero, _⟩ := ti_spec ht.ok
    have hts' := ti_slice ht.slice
    have hisz : it.size = sz := by rw [← hsz]; exact ht.size
    have hzs : z.cells.size = sz := by have := ht.zlen; rw [hzero] at this; simpa using this
    have hpos := ht.pos
    have hzz : SReps w D ρ σ (List.replicate len (ti P e).zero).flatten ((Array.range (len * it.size)).map (z.cells[· % z.cells.size]!)).toList := by
      rw [hzero]
      refine SReps.of_get ?_ fun j x v hx hv => ?_
      · simp [hisz, ← hzs]
      · have hj : j < len * sz := by
          have := (List.getElem?_eq_some_iff.1 hv).1
          simpa [hisz] using this
        have hv2 : v = z.cells[j % sz]! := by
          simp only [Array.toList_map, List.getElem?_map, Array.toList_range, hisz, hzs] at hv
          rw [List.getElem?_range hj] at hv
          simp at hv
          exact hv.symm
        have hx2 : x = cst (z.cells[j % sz]!) := by
          have hjm : j % sz < z.cells.size := by rw [hzs]; exact Nat.mod_lt _ hpos
          have key : ∀ (n j : Nat), j < n * sz → (List.replicate n (z.cells.toList.map cst)).flatten[j]? = some (cst (z.cells[j % sz]!)) := by
            intro n
            induction n with
            | zero => intro j hj; omega
            | succ n ih =>
              intro j hj
              rw [List.replicate_succ, List.flatten_cons]
              by_cases h1 : j < sz
              · rw [List.getElem?_append_left (by simp; omega), List.getElem?_map, Nat.mod_eq_of_lt h1]
                have : j < z.cells.size := by omega
                simp [this]
              · rw [List.getElem?_append_right (by simp; omega)]
                simp only [List.length_map, Array.length_toList, hzs]
                have hj' : j - sz < n * sz := by
                  rw [Nat.add_mul, Nat.one_mul] at hj
                  omega
                rw [ih (j - sz) hj', ← Nat.mod_eq_sub_mod (by omega)]
          rw [key len j hj] at hx
          injection hx with hx
          exact hx.symm
        subst hv2 hx2
        exact cst_rep _
    obtain ⟨vs', k1, k2⟩ := fill_rep (w := w) (D := D) (ρ := ρ) (σ := σ) _ _ (parts.map fun (i, x) => (i, a.eval x)).toList _ _ cs hc hzz (by simp) (parts_rep hs parts hp)
    have hcv := datsI_rep k2 hd
    have hvl : vs'.size = len * sz := by have := hcv.1; simp at this; omega
    have hrun : (Instr.buildSlice t len (parts.map fun (i, x) => (i, a.eval x))).run P w = .ok (.slice (some ⟨w.heap.size, 0, none⟩) len len) (w.alloc (.cells vs' e)) := by
      by_cases h0 : len * it.size = 0
      · have hl0 : len = 0 := by
          rcases Nat.mul_eq_zero.1 h0 with h | h
          · exact h
          · omega
        subst hl0
        simp only [Nat.zero_mul, Array.range_zero', Array.map_empty] at k1
        have k1' : Instr.fill (fun i => some (i * it.size, it.size)) #[] (parts.map fun (i, x) => (i, a.eval x)).toList = some vs' := by rw [hisz]; exact k1
        simp [Instr.buildSlice, run_underlying hts', sizeOf, typeInfo, hi, Array.range_zero', newRow]
        rw [show (Array.map (fun x => (x.1, a.eval x.2)) parts) = (parts.map fun (i, x) => (i, a.eval x)) from rfl] at *
        simp only [Array.toList_map] at k1'
        simp [k1']
      · exact run_buildSlice w t e len _ vs' it z hts' hi hz (by rw [hisz]; omega) h0 (by rw [hisz] at k1 ⊢; exact k1)
    have hrows := chop_rows (w := w) (D := D) (sz := sz) len ps vs'.toList hcv hps
    have mv := alloc_mv hs hm (.cells vs' e) (.row e sz (chop sz len ps))
    have hrows' := hrows.mono mv.same mv.dd
    have hh : (w.alloc (.cells vs' e)).heap[w.heap.size]? = some (.cells vs' e (0, 0)) := heap_alloc_new w _
    rw [updB_one]
    refine ⟨.slice (some ⟨w.heap.size, 0, none⟩) len len, _, D, setR ρ m (some w.heap.size), ?_, hs.alloc hm vs' e (.row e sz (chop sz len ps)) ⟨some w.heap.size, setR_self _ _ _, ?_⟩, ?_⟩
    · simp only [execOp, ho, Sem.run_bind, Sem.run_pure, Result.andThen_ok, hrun]
    · exact RowIn.of_values hh hvl hpos (by simp [chop_length]) hlm hrows' (by rw [chop_length]; rw [List.take_of_length_le (by simp; omega)])
    · have := own_alloc (w := w.alloc (.cells vs' e)) (D := D) (ρ := ρ) (σ := σ) (m := m) (b := some (.row e sz (chop sz len ps))) hh hvl hpos hlm hrows.lens rfl
      rwa [chop_length] at this

/-- make. -/
theorem sem_make {t e : TypeId} {sz m : Nat} {x y : Operand} {k k' : IntKind} {l c : Int} {zr : List PV} (ho : o.op = .makeSlice t x y) (ht : ElT P t e sz) (hx : evO E x = .d (.int k l)) (hy : evO E y = .d (.int k' c)) (hz : (ti P e).zero.mapM datS = some zr) (h0 : 0 ≤ l) (hlc : l ≤ c) (hcl : c ≤ 9223372036854775807) (hlim : c * ((ti P e).bytes : Int) ≤ 140737488355328) (hm : ¬ L m) :
    OpSem P o L E σ (.own m) [(m, some (.row e sz (List.replicate l.toNat zr)))] [m] :=
  OpSem.of_run fun w0 X D0 D ρ a w hs => by
    obtain ⟨it, d, z, hi, hu, hzz, hsz, hby, hzero, _⟩ := ti_spec ht.ok
    have hts' := ti_slice ht.slice
    have hisz : it.size = sz := by rw [← hsz]; exact ht.size
    have hzs : z.cells.size = sz := by have := ht.zlen; rw [hzero] at this; simpa using this
    have hpos := ht.pos
    have h1 := evO_rep hs x
    have h2 := evO_rep hs y
    rw [hx] at h1
    rw [hy] at h2
    simp only [SRep, Rep] at h1 h2
    have hrun := run_make (P := P) w t e it z hts' hi hzz k k' l c h0 hlc (by rw [← hby, Int.mul_comm]; omega) hcl
    have hzc : CellsV w D zr z.cells.toList := by
      rw [hzero] at hz
      exact dats_rep (csts_rep (w := w) (D := D) (ρ := ρ) (σ := σ) _) hz
    have hzl : zr.length = sz := by have := hzc.1; simp at this; omega
    have hmc : ∀ j, j < c.toNat * sz → (madeCells z.cells (c.toNat * it.size)).toList[j]? = z.cells.toList[j % sz]? := by
      intro j hj
      have hjm : j % sz < z.cells.size := by rw [hzs]; exact Nat.mod_lt _ hpos
      simp only [madeCells, Array.toList_map, List.getElem?_map, Array.toList_range, hisz]
      rw [List.getElem?_range hj]
      simp [hzs]
      rw [getElem!_pos z.cells _ hjm, Array.getElem?_eq_getElem hjm]
    have hms : (madeCells z.cells (c.toNat * it.size)).size = c.toNat * sz := by rw [size_madeCells, hisz]
    have hrows : RowsV w D sz (List.replicate l.toNat zr) ((madeCells z.cells (c.toNat * it.size)).toList.take (l.toNat * sz)) := by
      have key : ∀ n, n ≤ c.toNat → ∀ o, o + n ≤ c.toNat → RowsV w D sz (List.replicate n zr) (((madeCells z.cells (c.toNat * it.size)).toList.drop (o * sz)).take (n * sz)) := by
        intro n
        induction n with
        | zero => intro _ o _; simp [RowsV]
        | succ n ih =>
          intro hn o ho'
          have hle : (o + (n + 1)) * sz ≤ c.toNat * sz := Nat.mul_le_mul_right _ ho'
          rw [Nat.add_mul, Nat.add_mul, Nat.one_mul] at hle
          simp only [List.replicate_succ, RowsV]
          refine ⟨((madeCells z.cells (c.toNat * it.size)).toList.drop (o * sz)).take sz, _, ?_, hzl, ⟨?_, fun j p v hp hv => ?_⟩, ih (by omega) (o + 1) (by omega)⟩
          · rw [Nat.add_mul n 1 sz, Nat.one_mul, Nat.add_comm (n * sz) sz, List.take_add]
            congr 1
            rw [List.drop_drop, Nat.add_mul o 1 sz, Nat.one_mul]
          · simp only [List.length_take, List.length_drop, Array.length_toList, hms, hzl]
            omega
          · rw [List.getElem?_take] at hv
            split at hv
            · rename_i hjs
              rw [List.getElem?_drop, hmc _ (by omega)] at hv
              rw [Nat.mul_comm o sz, Nat.mul_add_mod, Nat.mod_eq_of_lt hjs] at hv
              exact hzc.2 j p v hp hv
            · cases hv
      have := key l.toNat (by omega) 0 (by omega)
      simpa using this
    have mv := alloc_mv hs hm (.cells (madeCells z.cells (c.toNat * it.size)) e) (.row e sz (List.replicate l.toNat zr))
    have hh : (w.alloc (.cells (madeCells z.cells (c.toNat * it.size)) e)).heap[w.heap.size]? = some (.cells (madeCells z.cells (c.toNat * it.size)) e (0, 0)) := heap_alloc_new w _
    have hcm : c.toNat ≤ maxLen := by simp only [maxLen]; omega
    rw [updB_one]
    refine ⟨.slice (some ⟨w.heap.size, 0, none⟩) l.toNat c.toNat, w.alloc (.cells (madeCells z.cells (c.toNat * it.size)) e), D, setR ρ m (some w.heap.size), ?_, hs.alloc hm (madeCells z.cells (c.toNat * it.size)) e (.row e sz (List.replicate l.toNat zr)) ⟨some w.heap.size, setR_self _ _ _, ?_⟩, ?_⟩
    · simp only [execOp, ho, h1, h2, Sem.run_bind, Sem.run_pure, Result.andThen_ok, hrun]
    · exact RowIn.of_values hh hms hpos (by simp; omega) hcm (hrows.mono mv.same mv.dd) (by simp)
    · have := own_alloc (w := w.alloc (.cells (madeCells z.cells (c.toNat * it.size)) e)) (D := D) (ρ := ρ) (σ := σ) (m := m) (b := some (.row e sz (List.replicate l.toNat zr))) hh hms hpos hcm hrows.lens rfl
      rwa [List.length_replicate] at this

/-- make of slices: each place is one cell, that may be written. -/
theorem sem_make_box {t e : TypeId} {m : Nat} {x y : Operand} {k k' : IntKind} {l : Int} (ho : o.op = .makeSlice t x y) (ht : ElT P t e 1) (hx : evO E x = .d (.int k l)) (hy : evO E y = .d (.int k' l)) (hz : (ti P e).zero = [.nils]) (h0 : 0 ≤ l) (hcl : l ≤ 9223372036854775807) (hlim : l * ((ti P e).bytes : Int) ≤ 140737488355328) (hm : ¬ L m) :
    OpSem P o L E σ (.sbox m l.toNat) [(m, some (.box (List.replicate l.toNat .nils)))] [m] :=
  OpSem.of_run fun w0 X D0 D ρ a w hs => by
    obtain ⟨it, d, z, hi, hu, hzz, hsz, hby, hzero, _⟩ := ti_spec ht.ok
    have hts' := ti_slice ht.slice
    have hisz : it.size = 1 := by rw [← hsz]; exact ht.size
    have h1 := evO_rep hs x
    have h2 := evO_rep hs y
    rw [hx] at h1
    rw [hy] at h2
    simp only [SRep, Rep] at h1 h2
    have hrun := run_make (P := P) w t e it z hts' hi hzz k k' l l h0 (Int.le_refl _) (by rw [← hby, Int.mul_comm]; omega) hcl
    rw [hzero] at hz
    have hzc : ∃ u, z.cells = #[u] ∧ cst u = .nils := by
      generalize z.cells = zc at hz
      obtain ⟨l0⟩ := zc
      match l0, hz with
      | [u], hz => exact ⟨u, rfl, by simpa using hz⟩
      | [], hz => simp at hz
      | _ :: _ :: _, hz => simp at hz
    obtain ⟨u, hu1, hu2⟩ := hzc
    have hun : u = .slice none 0 0 := by
      have := cst_rep (w := w) (D := D) (ρ := ρ) (σ := σ) u
      rw [hu2] at this
      simpa only [SRep] using this
    have hmc : (madeCells z.cells (l.toNat * it.size)).toList = List.replicate l.toNat (.slice none 0 0) := by
      apply List.ext_getElem?
      intro j
      simp only [madeCells, Array.toList_map, List.getElem?_map, Array.toList_range, hisz, Nat.mul_one, hu1, hun]
      rw [List.getElem?_replicate]
      by_cases hj : j < l.toNat
      · rw [List.getElem?_range hj, if_pos hj]
        simp [Nat.mod_one]
      · rw [List.getElem?_eq_none (by simp; omega), if_neg hj]
        rfl
    rw [updB_one]
    refine ⟨.slice (some ⟨w.heap.size, 0, none⟩) l.toNat l.toNat, w.alloc (.cells (madeCells z.cells (l.toNat * it.size)) e), D, setR ρ m (some w.heap.size), ?_, hs.alloc hm (madeCells z.cells (l.toNat * it.size)) e (.box (List.replicate l.toNat .nils)) ?_, ?_⟩
    · simp only [execOp, ho, h1, h2, Sem.run_bind, Sem.run_pure, Result.andThen_ok, hrun]
    · refine ⟨w.heap.size, _, _, setR_self _ _ _, heap_alloc_new w _, ?_, fun v hv => ?_⟩
      · rw [hmc]
        refine SReps.of_get (by simp) fun j x v hx hv => ?_
        rw [List.getElem?_replicate] at hx hv
        split at hx
        · rename_i hj
          rw [if_pos hj] at hv
          injection hx with hx
          injection hv with hv
          subst hx hv
          simp [SRep]
        · cases hx
      · rw [← Array.mem_toList_iff, hmc, List.mem_replicate] at hv
        rw [hv.2]
        rfl
    · simp only [SRep]
      exact ⟨w.heap.size, setR_self _ _ _, by simp only [maxLen]; omega, rfl⟩

/-- A store into an element of a row of the call's own. -/
theorem sem_store_row {x y : Operand} {t T : TypeId} {i j off sz : Nat} {rows : List (List PV)} {ps : List PV} (ho : o.op = .store t x y) (hx : evO E x = .oelt i j off) (hb : σ i = some (.row T sz rows)) (ht : (ti P t).ok = true)
    (hone : (cellsS (evO E y)).all oneB = true) (hown : (cellsS (evO E y)).all (ownOK σ) = true) (hd : (cellsS (evO E y)).mapM (datI σ) = some ps) (hsz : ps.length = (ti P t).size) (hl : off + ps.length ≤ sz) :
    OpSem P o L E σ .junk [(i, some (.row T sz (rows.set j (splice (rows.getD j []) off ps))))] [] :=
  OpSem.of_skip fun w0 X D0 D ρ a w hs => by
    rw [updB_one]
    obtain ⟨g, arr, cap, hg, hv, h2, h3, k1, k2, k3, k4, k5, k6⟩ := eval_oelt hs hx hb
    obtain ⟨c1, c2⟩ := cells_rep (evO_rep hs y) hone hown
    have hcv := datsI_rep c1 hd
    have hvl : (a.eval y).cells.size = ps.length := by have := hcv.1; simpa using this
    obtain ⟨hD, hM, hlt⟩ := hs.apart i _ g hb rfl hg
    have hcap : (j + 1) * sz ≤ cap * sz := Nat.mul_le_mul_right _ (by omega)
    rw [Nat.add_mul, Nat.one_mul] at hcap
    have hrun := run_storeVar' (P := P) (t := t) (v := a.eval y) (off := j * sz + off) ht k1 (by omega) c2 (by omega)
    let arr' := (splice arr.toList (j * sz + off) (a.eval y).cells.toList).toArray
    refine ⟨w.setRow g arr', D, ρ, by simp only [execOp, ho, Instr.storeAt, hv, Instr.sureAddr, Sem.run_bind, Sem.run_pure, Result.andThen_ok, hrun]; rfl, ?_⟩
    have hh' := setRow_heap w g arr arr' T _ k1
    have ha' : arr'.size = cap * sz := by
      simp only [arr', List.size_toArray]
      rw [splice_length (by simp; omega)]
      simpa using k2
    have hj : rows[j]? = some (rows.getD j []) := by simp [List.getD, List.getElem?_eq_getElem h3]
    have hjl : (rows.getD j []).length = sz := h2 _ (List.mem_of_getElem? hj)
    have hl' : ∀ r ∈ rows.set j (splice (rows.getD j []) off ps), r.length = sz := by
      intro r hr
      rcases List.mem_or_eq_of_mem_set hr with h | h
      · exact h2 r h
      · rw [h, splice_length (by omega)]; exact hjl
    have c : Chg w (w.setRow g arr') D ρ ρ σ (setB σ i (some (.row T sz (rows.set j (splice (rows.getD j []) off ps))))) (fun k => k = g) (fun q => q = i) := by
      refine ⟨fun _ _ h => h, by simp, fun k _ hk => setRow_other w g k _ hk, fun k hk e => hD (e ▸ hk), fun q b hn hb' => ?_, fun q r v hn hr ho' => ?_, fun q g' j' off' v hn hr he => ?_⟩
      · have hne : i ≠ q := fun e => hn e.symm
        simp only [setB, if_neg hne] at hb'
        exact ⟨hb', fun g' hl' hr' e => hne (hs.inj i q _ _ g hb hb' rfl hl' hg (e ▸ hr'))⟩
      · subst hn
        simp only [setB, if_true]
        refine ⟨fun T' sz' rows' hb' => ?_, fun _ h => by simp at h⟩
        injection hb' with hb'
        injection hb' with e1 e2 e3
        subst e1 e2 e3
        rcases ho'.1 _ _ _ hb with ⟨rfl, _⟩ | ⟨g', cap', arr2, rfl, hv', hh2, ha2, hp2, hc2, _⟩
        · rw [hg] at hr; cases hr
        · rw [hg] at hr
          injection hr with hr
          injection hr with hr
          subst hr
          rw [k1] at hh2
          injection hh2 with hh2
          injection hh2 with hh2
          subst hh2
          exact .inr ⟨g, cap', arr', rfl, by rw [hv', List.length_set], hh', by rw [ha', ← k2, ha2], hp2, hc2, hl'⟩
      · subst hn
        simp only [setB, if_true]
        intro T' sz' rows' hb'
        injection hb' with hb'
        injection hb' with e1 e2 e3
        subst e1 e2 e3
        obtain ⟨q1, q2, q3⟩ := he _ _ _ hb
        exact ⟨hl', by rw [List.length_set]; exact q2, q3⟩
    have hsame := c.same hs
    refine (hs.change c (fun q r hr' => .inl (hs.given q r hr')) (hs.kept.setRow hM _) (fun q b hn hb' => ?_) (fun q b g' hn hb' _ hr' => ?_) (fun q _ r hr' _ => hr') (fun q q2 b d g' hn h2 h3 l3 l4 r1 r2 => ?_))
    · subst hn
      simp only [setB, if_true, Option.some.injEq] at hb'
      subst hb'
      refine ⟨some g, hg, arr', cap, hh', ha', k3, by simpa using k4, k5, RepRows.of_get fun q r hq => ?_⟩
      have hcell : ∀ n, (w.setRow g arr').cell? ((⟨g, 0, none⟩ : Addr).add n) = (splice arr.toList (j * sz + off) (a.eval y).cells.toList)[n]? := by
        intro n
        rw [addr_add rfl, cell_at hh']
        simp [arr']
      have hold : ∀ n, w.cell? ((⟨g, 0, none⟩ : Addr).add n) = arr.toList[n]? := by
        intro n
        rw [addr_add rfl, cell_at k1]
        simp
      rw [List.getElem?_set] at hq
      by_cases e : j = q
      · subst e
        rw [if_pos rfl, if_pos h3] at hq
        injection hq with hq
        subst hq
        refine ⟨by rw [splice_length (by omega)]; exact hjl, RepCells.of_get fun n p hn => ?_⟩
        rw [splice_get (by omega)] at hn
        rw [hcell, splice_get (by simp; omega)]
        simp only [Array.length_toList, hvl, Nat.zero_add]
        obtain ⟨_, hr2⟩ := k6.get j _ hj
        split at hn
        · rw [if_pos (by omega)]
          obtain ⟨v, q1, q2⟩ := hr2.get n p hn
          rw [hold] at q1
          exact ⟨v, by simpa using q1, Rep.mono hsame (fun _ h => h) p v q2⟩
        · rw [if_neg (by omega)]
          split at hn
          · rw [if_pos (by omega)]
            have hlt' : j * sz + n - (j * sz + off) < (a.eval y).cells.toList.length := by simp; omega
            refine ⟨_, List.getElem?_eq_getElem hlt', Rep.mono hsame (fun _ h => h) p _ (hcv.2 (n - off) p _ hn ?_)⟩
            rw [show n - off = j * sz + n - (j * sz + off) by omega]
            exact List.getElem?_eq_getElem hlt'
          · rw [if_neg (by omega)]
            obtain ⟨v, q1, q2⟩ := hr2.get n p hn
            rw [hold] at q1
            exact ⟨v, by simpa using q1, Rep.mono hsame (fun _ h => h) p v q2⟩
      · rw [if_neg e] at hq
        obtain ⟨hr1, hr2⟩ := k6.get q r hq
        refine ⟨hr1, RepCells.of_get fun n p hn => ?_⟩
        obtain ⟨v, q1, q2⟩ := hr2.get n p hn
        rw [hold] at q1
        rw [hcell, splice_get (by simp; omega)]
        simp only [Array.length_toList, hvl, Nat.zero_add] at q1 ⊢
        have hn' : n < sz := by have := (List.getElem?_eq_some_iff.1 hn).1; omega
        refine ⟨v, ?_, Rep.mono hsame (fun _ h => h) p v q2⟩
        rcases Nat.lt_or_gt_of_ne e with hlt2 | hlt2
        · have : (j + 1) * sz ≤ q * sz := Nat.mul_le_mul_right _ hlt2
          rw [Nat.add_mul, Nat.one_mul] at this
          rw [if_neg (by omega), if_neg (by omega)]
          exact q1
        · have : (q + 1) * sz ≤ j * sz := Nat.mul_le_mul_right _ hlt2
          rw [Nat.add_mul, Nat.one_mul] at this
          rw [if_pos (by omega)]
          exact q1
    · subst hn
      rw [hg] at hr'
      injection hr' with hr'
      injection hr' with hr'
      subst hr'
      exact ⟨hD, hM, by simpa using hlt⟩
    · subst hn
      by_cases e : q = q2
      · exact e
      · simp only [setB, if_neg e] at h3
        exact hs.inj q q2 _ _ g' hb h3 rfl l4 r1 r2
end
end Go.Proofs.Ytikfkipalifohaa.A
