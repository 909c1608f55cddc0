/- The layer, part 2: operations that read memory. -/
import Derived.Test.YtikfkipalifohaaA1
namespace Go.Proofs.Ytikfkipalifohaa.A
open Go Go.RowKit

section
variable {P : Program} {t : TypeId}
theorem ti_spec (h : (ti P t).ok = true) : ∃ i d z, P.info? t = some i ∧ P.underlying t = some d ∧ i.zero = some z ∧ (ti P t).size = i.size ∧ (ti P t).bytes = i.bytes ∧ (ti P t).zero = z.cells.toList.map cst ∧
    (ti P t).kind = (match d with
      | .struct fs => .struct (fs.toList.map fun f => (f.offset, P.cellsOf f.type))
      | .slice e => .slice e
      | .array n e => .arr n e
      | .int k => .int k
      | .string => .str
      | .bool | .pointer _ => .plain
      | _ => .other) := by
  unfold ti at *
  cases h1 : P.info? t with
  | none => simp [h1] at h
  | some i =>
    cases h2 : P.underlying t with
    | none => simp [h1, h2] at h
    | some d =>
      simp only [h1, h2] at h ⊢
      obtain ⟨z, hz⟩ := Option.isSome_iff_exists.1 h
      exact ⟨i, d, z, rfl, rfl, hz, rfl, rfl, by simp [hz], rfl⟩
theorem ti_slice {e : TypeId} (h : (ti P t).kind = .slice e) : P.underlying t = some (.slice e) := by
  unfold ti at h
  split at h
  · simp only at h
    split at h <;> simp_all
  · simp at h
theorem ti_struct {fs : List (Nat × Nat)} (h : (ti P t).kind = .struct fs) : ∃ fields : Array Field, P.underlying t = some (.struct fields) ∧ fs = fields.toList.map fun f => (f.offset, P.cellsOf f.type) := by
  unfold ti at h
  split at h
  · simp only at h
    split at h <;> simp_all
  · simp at h
theorem ti_info (h : (ti P t).size ≠ 0) : ∃ i, P.info? t = some i ∧ i.size = (ti P t).size := by
  unfold ti at *
  split at h
  · rename_i i d h1 h2
    exact ⟨i, h1, rfl⟩
  · simp at h
theorem cellsOf_info {c : Nat} (h : P.cellsOf t = c) (hc : c ≠ 0) : ∃ i, P.info? t = some i ∧ i.size = c := by
  unfold Program.cellsOf at h
  cases hi : P.info? t with
  | none => simp [hi] at h; omega
  | some i => exact ⟨i, rfl, by simpa [hi] using h⟩
theorem run_isAgg (h : (ti P t).ok = true) (w : World) : (isAgg t).run P w = .ok (ti P t).kind.agg w := by
  obtain ⟨i, d, z, h1, h2, _, _, _, _, h3⟩ := ti_spec h
  rw [h3]
  simp only [isAgg, Sem.run_bind, run_underlying h2, Result.andThen_ok]
  cases d <;> simp [TK.agg]
theorem run_sizeOf' (h : (ti P t).ok = true) (w : World) : (sizeOf t).run P w = .ok (ti P t).size w := by
  obtain ⟨i, d, z, h1, h2, _, h4, _⟩ := ti_spec h
  rw [h4]
  simp [sizeOf, typeInfo, h1]
theorem run_loadVar_agg (h : (ti P t).ok = true) (hk : (ti P t).kind.agg = true) (w : World) (a : Addr) (vs : List Value) (hl : vs.length = (ti P t).size) (hc : ∀ j v, vs[j]? = some v → w.cell? (a.add j) = some v) :
    (loadVar t a).run P w = .ok (.agg vs.toArray) w := by
  have := run_loadCells_list (P := P) (w := w) a vs hc
  rw [hl] at this
  simp [loadVar, run_isAgg h, hk, run_sizeOf' h, this]
theorem run_loadVar_one (h : (ti P t).ok = true) (hk : (ti P t).kind.agg = false) (w : World) (a : Addr) (v : Value) (hc : w.cell? a = some v) :
    (loadVar t a).run P w = .ok v w := by
  simp [loadVar, run_isAgg h, hk, hc]
end

section
variable {P : Program} {o : Oper} {L : Nat → Prop} {E : Nat → SV} {σ : Nat → Option Blk}
theorem eval_ptr {w0 w : World} {X : Nat → Prop} {D0 : Base} {D : Nat → Prop} {ρ : Nat → Option (Option Nat)} {a : Act} (hs : StD w0 X D0 L D ρ E σ a w) {x : Operand} {i off : Nat} (hx : evO E x = .ptr i off) {cs : List SV} (hb : σ i = some (.box cs)) :
    ∃ g arr T, ρ i = some (some g) ∧ a.eval x = .pointer (some ⟨g, off, none⟩) ∧ w.heap[g]? = some (.cells arr T (0, 0)) ∧ SReps w D ρ σ cs arr.toList ∧ (∀ u ∈ arr, u.oneCell' = true) := by
  have h1 := evO_rep hs x
  rw [hx] at h1
  simp only [SRep] at h1
  obtain ⟨g, hg, hv⟩ := h1
  obtain ⟨g', arr, T, h2, h3, h4, h5⟩ := hs.blk i _ hb
  rw [hg] at h2
  injection h2 with h2
  injection h2 with h2
  subst h2
  exact ⟨g, arr, T, hg, hv, h3, h4, h5⟩
theorem cell_at {w : World} {g : Nat} {arr : Array Value} {T : TypeId} {fr : Nat × Nat} (h : w.heap[g]? = some (.cells arr T fr)) (j : Nat) : w.cell? ⟨g, j, none⟩ = arr[j]? := by
  simp [World.cell?, h]

theorem sem_load_box {x : Operand} {t : TypeId} {i off : Nat} {cs : List SV} (ho : o.op = .load t x) (hx : evO E x = .ptr i off) (hb : σ i = some (.box cs)) (ht : (ti P t).ok = true) (hk : (ti P t).kind.agg = false) (hl : off < cs.length) :
    OpSem P o L E σ (cs.getD off .junk) [] [] :=
  OpSem.pure fun w0 X D0 D ρ a w hs => by
    obtain ⟨g, arr, T, hg, hv, hh, hr, _⟩ := eval_ptr hs hx hb
    obtain ⟨v, hv1, hv2⟩ := hr.get off (cs.getD off .junk) (by simp [List.getD, List.getElem?_eq_getElem hl])
    refine ⟨v, ?_, hv2⟩
    have hc : w.cell? ⟨g, off, none⟩ = some v := by rw [cell_at hh]; simpa using hv1
    simp [execOp, ho, Instr.loadAt, hv, Instr.sureAddr, run_loadVar_one ht hk w _ v hc]
theorem sem_load_boxes {x : Operand} {t : TypeId} {i off : Nat} {cs : List SV} (ho : o.op = .load t x) (hx : evO E x = .ptr i off) (hb : σ i = some (.box cs)) (ht : (ti P t).ok = true) (hk : (ti P t).kind.agg = true) (hl : off + (ti P t).size ≤ cs.length) :
    OpSem P o L E σ (.agg ((cs.drop off).take (ti P t).size)) [] [] :=
  OpSem.pure fun w0 X D0 D ρ a w hs => by
    obtain ⟨g, arr, T, hg, hv, hh, hr, _⟩ := eval_ptr hs hx hb
    have hlen := hr.length
    have hc : ∀ j v, ((arr.toList.drop off).take (ti P t).size)[j]? = some v → w.cell? ((⟨g, off, none⟩ : Addr).add j) = some v := by
      intro j v hj
      rw [List.getElem?_take] at hj
      split at hj
      · rw [addr_add rfl, cell_at hh]
        simpa [List.getElem?_drop] using hj
      · cases hj
    refine ⟨.agg ((arr.toList.drop off).take (ti P t).size).toArray, ?_, ?_⟩
    · simp [execOp, ho, Instr.loadAt, hv, Instr.sureAddr, run_loadVar_agg ht hk w _ ((arr.toList.drop off).take (ti P t).size) (by simp at hlen ⊢; omega) hc]
    · simp only [SRep]
      refine ⟨_, rfl, SReps.of_get (by simp at hlen ⊢; omega) fun j y v h1 h2 => ?_⟩
      rw [List.getElem?_take] at h1
      simp only [List.getElem?_take] at h2
      split at h1
      · rw [List.getElem?_drop] at h1
        rw [if_pos (by assumption), List.getElem?_drop] at h2
        obtain ⟨v', h3, h4⟩ := hr.get _ _ h1
        rw [h3] at h2
        injection h2 with h2
        subst h2
        exact h4
      · cases h1

theorem eval_elt {w0 w : World} {X : Nat → Prop} {D0 : Base} {D : Nat → Prop} {ρ : Nat → Option (Option Nat)} {a : Act} (hs : StD w0 X D0 L D ρ E σ a w) {x : Operand} {cs : List PV} (hx : evO E x = .elt cs) :
    ∃ ad : Addr, a.eval x = .pointer (some ad) ∧ ad.spot = none ∧ D ad.block ∧ RepCells w D ad cs 0 := by
  have h1 := evO_rep hs x
  rw [hx] at h1
  simpa only [SRep] using h1
theorem sem_load_elt {x : Operand} {t : TypeId} {p : PV} {cs : List PV} (ho : o.op = .load t x) (hx : evO E x = .elt (p :: cs)) (ht : (ti P t).ok = true) (hk : (ti P t).kind.agg = false) :
    OpSem P o L E σ (.d p) [] [] :=
  OpSem.pure fun w0 X D0 D ρ a w hs => by
    obtain ⟨ad, hv, _, _, hr⟩ := eval_elt hs hx
    obtain ⟨v, hv1, hv2⟩ := hr.get 0 p rfl
    refine ⟨v, ?_, by simpa only [SRep] using hv2⟩
    have hc : w.cell? ad = some v := by simpa [Addr.add] using hv1
    simp [execOp, ho, Instr.loadAt, hv, Instr.sureAddr, run_loadVar_one ht hk w _ v hc]
theorem reps_of_cells {w : World} {D : Nat → Prop} {ρ : Nat → Option (Option Nat)} {ad : Addr} : ∀ (ps : List PV) (o : Nat), RepCells w D ad ps o → ∃ vs : List Value, vs.length = ps.length ∧ SReps w D ρ σ (ps.map .d) vs ∧ ∀ j v, vs[j]? = some v → w.cell? (ad.add (o + j)) = some v
  | [], _, _ => ⟨[], rfl, by simp [SReps], by simp⟩
  | p :: ps, o, h => by
    simp only [RepCells] at h
    obtain ⟨⟨v, h1, h2⟩, h3⟩ := h
    obtain ⟨vs, h4, h5, h6⟩ := reps_of_cells ps (o + 1) h3
    refine ⟨v :: vs, by simp [h4], ?_, fun j u hj => ?_⟩
    · simp only [List.map_cons, SReps]
      exact ⟨v, vs, rfl, by simpa only [SRep] using h2, h5⟩
    · cases j with
      | zero => simp at hj; subst hj; exact h1
      | succ j =>
        have := h6 j u (by simpa using hj)
        rwa [Nat.add_assoc, Nat.add_comm 1 j] at this
theorem RepCells.take {w : World} {D : Nat → Prop} {ad : Addr} {ps : List PV} {o n : Nat} (h : RepCells w D ad ps o) : RepCells w D ad (ps.take n) o :=
  RepCells.of_get fun j p hj => by
    rw [List.getElem?_take] at hj
    split at hj
    · exact h.get j p hj
    · cases hj
theorem RepCells.drop {w : World} {D : Nat → Prop} {ad : Addr} {ps : List PV} {o n : Nat} (h : RepCells w D ad ps o) : RepCells w D ad (ps.drop n) (o + n) :=
  RepCells.of_get fun j p hj => by
    rw [List.getElem?_drop] at hj
    have := h.get _ p hj
    rwa [← Nat.add_assoc] at this
theorem RepCells.shift {w : World} {D : Nat → Prop} {ad : Addr} (hs : ad.spot = none) {ps : List PV} {o n : Nat} (h : RepCells w D ad ps (n + o)) : RepCells w D (ad.add n) ps o :=
  RepCells.of_get fun j p hj => by
    have := h.get j p hj
    rwa [Nat.add_assoc, ← add_add hs] at this
theorem sem_load_elts {x : Operand} {t : TypeId} {cs : List PV} (ho : o.op = .load t x) (hx : evO E x = .elt cs) (ht : (ti P t).ok = true) (hk : (ti P t).kind.agg = true) (hl : (ti P t).size ≤ cs.length) :
    OpSem P o L E σ (.agg ((cs.take (ti P t).size).map .d)) [] [] :=
  OpSem.pure fun w0 X D0 D ρ a w hs => by
    obtain ⟨ad, hv, _, _, hr⟩ := eval_elt hs hx
    obtain ⟨vs, h1, h2, h3⟩ := reps_of_cells (σ := σ) (ρ := ρ) _ 0 (hr.take (n := (ti P t).size))
    refine ⟨.agg vs.toArray, ?_, by simp only [SRep]; exact ⟨_, rfl, by simpa using h2⟩⟩
    simp [execOp, ho, Instr.loadAt, hv, Instr.sureAddr, run_loadVar_agg ht hk w ad vs (by simp [h1]; omega) (fun j v hj => by simpa using h3 j v hj)]

/-- Element j of a row of the call's own. -/
theorem eval_oelt {w0 w : World} {X : Nat → Prop} {D0 : Base} {D : Nat → Prop} {ρ : Nat → Option (Option Nat)} {a : Act} (hs : StD w0 X D0 L D ρ E σ a w) {x : Operand} {i j off : Nat} (hx : evO E x = .oelt i j off) {T : TypeId} {sz : Nat} {rows : List (List PV)} (hb : σ i = some (.row T sz rows)) :
    ∃ g arr cap, ρ i = some (some g) ∧ a.eval x = .pointer (some ⟨g, j * sz + off, none⟩) ∧ (∀ r ∈ rows, r.length = sz) ∧ j < rows.length ∧ w.heap[g]? = some (.cells arr T (0, 0)) ∧ arr.size = cap * sz ∧ 0 < sz ∧ rows.length ≤ cap ∧ cap ≤ maxLen ∧ RepRows w D ⟨g, 0, none⟩ sz rows 0 := by
  have h1 := evO_rep hs x
  rw [hx] at h1
  simp only [SRep] at h1
  obtain ⟨g, hg, hv⟩ := h1
  obtain ⟨h2, h3, h4⟩ := hv T sz rows hb
  obtain ⟨r, h5, h6⟩ := hs.blk i _ hb
  rw [hg] at h5
  injection h5 with h5
  subst h5
  obtain ⟨arr, cap, k1, k2, k3, k4, k5, k6⟩ := h6
  exact ⟨g, arr, cap, hg, h4, h2, h3, k1, k2, k3, k4, k5, k6⟩
theorem sem_load_oelt {x : Operand} {t : TypeId} {i j off : Nat} {T : TypeId} {sz : Nat} {rows : List (List PV)} {p : PV} (ho : o.op = .load t x) (hx : evO E x = .oelt i j off) (hb : σ i = some (.row T sz rows)) (ht : (ti P t).ok = true) (hk : (ti P t).kind.agg = false) (hp : (rows.getD j [])[off]? = some p) :
    OpSem P o L E σ (.d p) [] [] :=
  OpSem.pure fun w0 X D0 D ρ a w hs => by
    obtain ⟨g, arr, cap, hg, hv, h2, h3, k1, k2, k3, k4, k5, k6⟩ := eval_oelt hs hx hb
    have hj : rows[j]? = some (rows.getD j []) := by simp [List.getD, List.getElem?_eq_getElem h3]
    obtain ⟨v, hv1, hv2⟩ := (k6.get j _ hj).2.get off p hp
    refine ⟨v, ?_, by simpa only [SRep] using hv2⟩
    rw [addr_add rfl] at hv1
    have hc : w.cell? ⟨g, j * sz + off, none⟩ = some v := by simpa using hv1
    simp [execOp, ho, Instr.loadAt, hv, Instr.sureAddr, run_loadVar_one ht hk w _ v hc]
theorem sem_load_oelts {x : Operand} {t : TypeId} {i j off : Nat} {T : TypeId} {sz : Nat} {rows : List (List PV)} (ho : o.op = .load t x) (hx : evO E x = .oelt i j off) (hb : σ i = some (.row T sz rows)) (ht : (ti P t).ok = true) (hk : (ti P t).kind.agg = true) (hl : off + (ti P t).size ≤ (rows.getD j []).length) :
    OpSem P o L E σ (.agg ((((rows.getD j []).drop off).take (ti P t).size).map .d)) [] [] :=
  OpSem.pure fun w0 X D0 D ρ a w hs => by
    obtain ⟨g, arr, cap, hg, hv, h2, h3, k1, k2, k3, k4, k5, k6⟩ := eval_oelt hs hx hb
    have hj : rows[j]? = some (rows.getD j []) := by simp [List.getD, List.getElem?_eq_getElem h3]
    have hr := ((k6.get j _ hj).2.drop (n := off)).take (n := (ti P t).size)
    obtain ⟨vs, h1, h4, h5⟩ := reps_of_cells (σ := σ) (ρ := ρ) _ _ hr
    refine ⟨.agg vs.toArray, ?_, by simp only [SRep]; exact ⟨_, rfl, by simpa using h4⟩⟩
    simp [execOp, ho, Instr.loadAt, hv, Instr.sureAddr, run_loadVar_agg ht hk w ⟨g, j * sz + off, none⟩ vs (by rw [h1]; simp only [List.length_take, List.length_drop]; omega) (fun m v hm => by
      have := h5 m v hm
      rw [addr_add rfl] at this ⊢
      simpa [Nat.add_assoc] using this)]

/-- The address of a field. -/
theorem run_fieldAt {s : TypeId} {f off c : Nat} {fs : List (Nat × Nat)} (hk : (ti P s).kind = .struct fs) (hf : fs[f]? = some (off, c)) (hc : c ≠ 0) (w : World) (ad : Addr) :
    (Instr.fieldAt s (.pointer (some ad)) f).run P w = .ok (.pointer (some (ad.add off))) w := by
  obtain ⟨fields, hu, rfl⟩ := ti_struct hk
  rw [List.getElem?_map] at hf
  cases hfl : fields.toList[f]? with
  | none => simp [hfl] at hf
  | some fl =>
    simp only [hfl, Option.map_some, Option.some.injEq, Prod.mk.injEq] at hf
    obtain ⟨rfl, hcc⟩ := hf
    obtain ⟨i, hi, his⟩ := cellsOf_info hcc hc
    have hfa : fields[f]? = some fl := by simpa using hfl
    simp [Instr.fieldAt, run_underlying hu, hfa, Instr.sureAddr, fieldPlace, sizeOf, typeInfo, hi, his, hc]
theorem sem_field_ptr {x : Operand} {s : TypeId} {f i off o' c : Nat} {fs : List (Nat × Nat)} (ho : o.op = .fieldAddr s x f) (hx : evO E x = .ptr i off) (hk : (ti P s).kind = .struct fs) (hf : fs[f]? = some (o', c)) (hc : c ≠ 0) :
    OpSem P o L E σ (.ptr i (off + o')) [] [] :=
  OpSem.pure fun w0 X D0 D ρ a w hs => by
    have h1 := evO_rep hs x
    rw [hx] at h1
    simp only [SRep] at h1
    obtain ⟨g, hg, hv⟩ := h1
    refine ⟨_, by simp only [execOp, ho, hv, Sem.run_bind, run_fieldAt hk hf hc, Result.andThen_ok]; rfl, ?_⟩
    simp only [SRep]
    exact ⟨g, hg, by rw [addr_add rfl]⟩
theorem sem_field_elt {x : Operand} {s : TypeId} {f o' c : Nat} {cs : List PV} {fs : List (Nat × Nat)} (ho : o.op = .fieldAddr s x f) (hx : evO E x = .elt cs) (hk : (ti P s).kind = .struct fs) (hf : fs[f]? = some (o', c)) (hc : c ≠ 0) :
    OpSem P o L E σ (.elt (cs.drop o')) [] [] :=
  OpSem.pure fun w0 X D0 D ρ a w hs => by
    obtain ⟨ad, hv, h1, h2, hr⟩ := eval_elt hs hx
    refine ⟨_, by simp only [execOp, ho, hv, Sem.run_bind, run_fieldAt hk hf hc, Result.andThen_ok]; rfl, ?_⟩
    simp only [SRep]
    refine ⟨ad.add o', rfl, add_spot h1 _, by rw [add_block]; exact h2, RepCells.shift h1 ?_⟩
    simpa using hr.drop (n := o')
theorem sem_field_oelt {x : Operand} {s : TypeId} {f i j off o' c : Nat} {fs : List (Nat × Nat)} (ho : o.op = .fieldAddr s x f) (hx : evO E x = .oelt i j off) (hb : ∃ T sz rows, σ i = some (.row T sz rows)) (hk : (ti P s).kind = .struct fs) (hf : fs[f]? = some (o', c)) (hc : c ≠ 0) :
    OpSem P o L E σ (.oelt i j (off + o')) [] [] :=
  OpSem.pure fun w0 X D0 D ρ a w hs => by
    obtain ⟨T, sz, rows, hb⟩ := hb
    have h1 := evO_rep hs x
    rw [hx] at h1
    simp only [SRep] at h1
    obtain ⟨g, hg, hv⟩ := h1
    obtain ⟨h2, h3, h4⟩ := hv T sz rows hb
    refine ⟨_, by simp only [execOp, ho, h4, Sem.run_bind, run_fieldAt hk hf hc, Result.andThen_ok]; rfl, ?_⟩
    simp only [SRep]
    refine ⟨g, hg, fun T' sz' rows' hb' => ?_⟩
    rw [hb] at hb'
    injection hb' with hb'
    injection hb' with e1 e2 e3
    subst e2 e3
    exact ⟨h2, h3, by rw [addr_add rfl, Nat.add_assoc]⟩

/-- The address of an element. -/
theorem run_indexAt {t e : TypeId} {k : IntKind} {n : Int} {ad : Addr} {len cap c : Nat} (hk : (ti P t).kind = .slice e) (hc : P.cellsOf e = c) (hc0 : c ≠ 0) (h0 : 0 ≤ n) (h1 : n < len) (w : World) :
    (Instr.indexAt t (.slice (some ad) len cap) (.int k n)).run P w = .ok (.pointer (some (ad.add (n.toNat * c)))) w := by
  have hu := ti_slice hk
  obtain ⟨i, hi, his⟩ := cellsOf_info hc hc0
  simp [Instr.indexAt, asIntOf, run_underlying hu, h0, h1, sizeOf, typeInfo, hi, his]
theorem sem_index_d {x y : Operand} {t e : TypeId} {k : IntKind} {n : Int} {rows : List (List PV)} (ho : o.op = .indexAddr t x y) (hx : evO E x = .d (.list rows)) (hy : evO E y = .d (.int k n)) (hk : (ti P t).kind = .slice e) (h0 : 0 ≤ n) (h1 : n < rows.length) (hc : P.cellsOf e = (rows.getD n.toNat []).length) (hc0 : P.cellsOf e ≠ 0) :
    OpSem P o L E σ (.elt (rows.getD n.toNat [])) [] [] :=
  OpSem.pure fun w0 X D0 D ρ a w hs => by
    have h2 := evO_rep hs x
    have h3 := evO_rep hs y
    rw [hx] at h2
    rw [hy] at h3
    simp only [SRep, Rep] at h2 h3
    rcases h2 with ⟨rfl, _⟩ | ⟨ad, cap, sz, hv, _, _, hsp, hD, hr⟩
    · simp at h1; omega
    · have hj : rows[n.toNat]? = some (rows.getD n.toNat []) := by
        have : n.toNat < rows.length := by omega
        simp [List.getD, List.getElem?_eq_getElem this]
      have hg := hr.get n.toNat _ hj
      have e : sz = P.cellsOf e := by rw [hc, hg.1]
      refine ⟨_, by simp only [execOp, ho, hv, h3, Sem.run_bind, run_indexAt hk rfl hc0 h0 h1, Result.andThen_ok]; rfl, ?_⟩
      simp only [SRep]
      refine ⟨_, rfl, add_spot hsp _, by rw [add_block]; exact hD, RepCells.shift hsp ?_⟩
      rw [← e]
      simpa using hg.2
/-- A slice of slices of the call's own: its cells are a variable's. -/
theorem sem_index_sbox {x y : Operand} {t e : TypeId} {k : IntKind} {n : Int} {i m : Nat} (ho : o.op = .indexAddr t x y) (hx : evO E x = .sbox i m) (hy : evO E y = .d (.int k n)) (hk : (ti P t).kind = .slice e) (h0 : 0 ≤ n) (h1 : n < m) (hc0 : P.cellsOf e ≠ 0) :
    OpSem P o L E σ (.ptr i (n.toNat * P.cellsOf e)) [] [] :=
  OpSem.pure fun w0 X D0 D ρ a w hs => by
    have h2 := evO_rep hs x
    have h3 := evO_rep hs y
    rw [hx] at h2
    rw [hy] at h3
    simp only [SRep, Rep] at h2 h3
    obtain ⟨g, hr, _, hv⟩ := h2
    refine ⟨_, by simp only [execOp, ho, hv, h3, Sem.run_bind, run_indexAt hk rfl hc0 h0 h1, Result.andThen_ok]; rfl, ?_⟩
    simp only [SRep]
    exact ⟨g, hr, by rw [addr_add rfl]; simp⟩
theorem sem_index_own {x y : Operand} {t e : TypeId} {k : IntKind} {n : Int} {i : Nat} {T : TypeId} {sz : Nat} {rows : List (List PV)} (ho : o.op = .indexAddr t x y) (hx : evO E x = .own i) (hb : σ i = some (.row T sz rows)) (hy : evO E y = .d (.int k n)) (hk : (ti P t).kind = .slice e) (h0 : 0 ≤ n) (h1 : n < rows.length) (hc : P.cellsOf e = (rows.getD n.toNat []).length) (hc0 : P.cellsOf e ≠ 0) :
    OpSem P o L E σ (.oelt i n.toNat 0) [] [] :=
  OpSem.pure fun w0 X D0 D ρ a w hs => by
    have h2 := evO_rep hs x
    have h3 := evO_rep hs y
    rw [hx] at h2
    rw [hy] at h3
    simp only [SRep, Rep] at h2 h3
    obtain ⟨r, hr, hO, _⟩ := h2
    rcases hO T sz rows hb with ⟨rfl, hv⟩ | ⟨g, cap, arr, rfl, hv, hh, ha, hsz, hcm, hrl⟩
    · obtain ⟨r, h5, h6⟩ := hs.blk i _ hb
      rw [hr] at h5
      injection h5 with h5
      subst h5
      simp only at h6
      subst h6
      simp at h1
      omega
    · have hj : n.toNat < rows.length := by omega
      have e : P.cellsOf e = sz := by
        rw [hc, List.getD, List.getElem?_eq_getElem hj]
        exact hrl _ (List.getElem_mem hj)
      refine ⟨_, by simp only [execOp, ho, hv, h3, Sem.run_bind, run_indexAt hk rfl hc0 h0 h1, Result.andThen_ok]; rfl, ?_⟩
      simp only [SRep]
      refine ⟨g, hr, fun T' sz' rows' hb' => ?_⟩
      rw [hb] at hb'
      injection hb' with hb'
      injection hb' with e1 e2 e3
      subst e2 e3
      exact ⟨hrl, hj, by rw [addr_add rfl, e]; simp⟩
theorem sem_index_ice {x y : Operand} {t e : TypeId} {k : IntKind} {n : Int} {i : Nat} {rows : List (List PV)} (ho : o.op = .indexAddr t x y) (hx : evO E x = .own i) (hb : σ i = some (.ice rows)) (hy : evO E y = .d (.int k n)) (hk : (ti P t).kind = .slice e) (h0 : 0 ≤ n) (h1 : n < rows.length) (hc : P.cellsOf e = (rows.getD n.toNat []).length) (hc0 : P.cellsOf e ≠ 0) :
    OpSem P o L E σ (.elt (rows.getD n.toNat [])) [] [] :=
  OpSem.pure fun w0 X D0 D ρ a w hs => by
    have h2 := evO_rep hs x
    have h3 := evO_rep hs y
    rw [hx] at h2
    rw [hy] at h3
    simp only [SRep] at h2 h3
    obtain ⟨r, hr, _, hI⟩ := h2
    have h2 := hI rows hb
    simp only [Rep] at h2 h3
    rcases h2 with ⟨rfl, _⟩ | ⟨ad, cap, sz, hv, _, _, hsp, hD, hr⟩
    · simp at h1; omega
    · have hj : rows[n.toNat]? = some (rows.getD n.toNat []) := by
        have : n.toNat < rows.length := by omega
        simp [List.getD, List.getElem?_eq_getElem this]
      have hg := hr.get n.toNat _ hj
      have e : sz = P.cellsOf e := by rw [hc, hg.1]
      refine ⟨_, by simp only [execOp, ho, hv, h3, Sem.run_bind, run_indexAt hk rfl hc0 h0 h1, Result.andThen_ok]; rfl, ?_⟩
      simp only [SRep]
      refine ⟨_, rfl, add_spot hsp _, by rw [add_block]; exact hD, RepCells.shift hsp ?_⟩
      rw [← e]
      simpa using hg.2
theorem sem_extract {x : Operand} {n : Nat} {vs : List SV} (ho : o.op = .extract x n) (hx : evO E x = .tup vs) (hn : n < vs.length) : OpSem P o L E σ (vs.getD n .junk) [] [] :=
  OpSem.pure fun w0 X D0 D ρ a w hs => by
    have h1 := evO_rep hs x
    rw [hx] at h1
    simp only [SRep] at h1
    obtain ⟨arr, hv, hr⟩ := h1
    obtain ⟨v, hv1, hv2⟩ := hr.get n (vs.getD n .junk) (by simp [List.getD, List.getElem?_eq_getElem hn])
    have ha : arr[n]? = some v := by simpa using hv1
    refine ⟨v, ?_, hv2⟩
    simp [execOp, ho, hv, Instr.extract, ha]
theorem sem_nilCheck {x : Operand} {i off : Nat} (ho : o.op = .nilCheck x) (hx : evO E x = .ptr i off) : OpSem P o L E σ (.ptr i off) [] [] :=
  OpSem.pure fun w0 X D0 D ρ a w hs => by
    have h1 := evO_rep hs x
    rw [hx] at h1
    have h0 := h1
    simp only [SRep] at h1
    obtain ⟨g, hg, hv⟩ := h1
    exact ⟨.pointer (some ⟨g, off, none⟩), by simp [execOp, ho, hv], by rw [hv] at h0; exact h0⟩
/-- How long a slice is. -/
def lenS (σ : Nat → Option Blk) : SV → Option Nat
  | .d (.list rows) => some rows.length
  | .nils => some 0
  | .own i => match σ i with
    | some (.row _ _ rows) => some rows.length
    | some (.ice rows) => some rows.length
    | _ => none
  | .sbox _ n => some n
  | _ => none
/-- A slice as it stands in a slot. -/
theorem len_rep {w0 w : World} {X : Nat → Prop} {D0 : Base} {D : Nat → Prop} {ρ : Nat → Option (Option Nat)} {a : Act} (hs : StD w0 X D0 L D ρ E σ a w) {x : Operand} {n : Nat} (hx : lenS σ (evO E x) = some n) :
    ∃ ad cap, a.eval x = .slice ad n cap ∧ n ≤ maxLen := by
  have h1 := evO_rep hs x
  generalize evO E x = y at *
  cases y with
  | d p =>
    cases p with
    | list rows =>
      simp only [lenS, Option.some.injEq] at hx
      subst hx
      simp only [SRep, Rep] at h1
      rcases h1 with ⟨rfl, ad, c, hv⟩ | ⟨ad, cap, sz, hv, k1, k2, _⟩
      · exact ⟨_, _, hv, by simp⟩
      · exact ⟨_, _, hv, Nat.le_trans k1 k2⟩
    | _ => simp [lenS] at hx
  | nils =>
    simp only [lenS, Option.some.injEq] at hx
    subst hx
    simp only [SRep] at h1
    exact ⟨_, _, h1, by simp⟩
  | own i =>
    simp only [SRep] at h1
    obtain ⟨r, hr, hO, hI⟩ := h1
    simp only [lenS] at hx
    split at hx
    · rename_i T sz rows hb
      injection hx with hx
      subst hx
      rcases hO T sz rows hb with ⟨rfl, hv⟩ | ⟨g, cap, arr, rfl, hv, hh, ha, hsz, hcm, hrl⟩
      · obtain ⟨r, h5, h6⟩ := hs.blk i _ hb
        rw [hr] at h5
        injection h5 with h5
        subst h5
        simp only at h6
        subst h6
        exact ⟨_, _, hv, by simp⟩
      · obtain ⟨r, h5, h6⟩ := hs.blk i _ hb
        rw [hr] at h5
        injection h5 with h5
        subst h5
        obtain ⟨arr', cap', k1, k2, k3, k4, k5, _⟩ := h6
        exact ⟨_, _, hv, Nat.le_trans k4 k5⟩
    · rename_i rows hb
      injection hx with hx
      subst hx
      have h2 := hI rows hb
      simp only [Rep] at h2
      rcases h2 with ⟨rfl, ad, c, hv⟩ | ⟨ad, cap, sz, hv, k1, k2, _⟩
      · exact ⟨_, _, hv, by simp⟩
      · exact ⟨_, _, hv, Nat.le_trans k1 k2⟩
    · cases hx
  | sbox i m =>
    simp only [lenS, Option.some.injEq] at hx
    subst hx
    simp only [SRep] at h1
    obtain ⟨g, _, hm, hv⟩ := h1
    exact ⟨_, _, hv, hm⟩
  | _ => simp [lenS] at hx
theorem sem_len {x : Operand} {ts : Array TypeId} {t e : TypeId} {n : Nat} (ho : o.op = .call { callee := .builtin .len, args := #[x], argTypes := ts }) (hts : ts = #[t]) (ht : (ti P t).kind = .slice e) (hx : lenS σ (evO E x) = some n) : OpSem P o L E σ (.d (.int .i64 n)) [] [] :=
  OpSem.pure fun w0 X D0 D ρ a w hs => by
    refine ⟨.int .i64 n, ?_, by simp [SRep, Rep]⟩
    obtain ⟨ad, cap, hv, _⟩ := len_rep hs hx
    simp [execOp, ho, hts, resolve, invoke, builtin, hv, Builtin.len_, run_underlying (ti_slice ht), goInt]
theorem sem_len_str {x : Operand} {ts : Array TypeId} {t : TypeId} {s : ByteArray} (ho : o.op = .call { callee := .builtin .len, args := #[x], argTypes := ts }) (hts : ts = #[t]) (ht : (ti P t).kind = .str) (hx : evO E x = .d (.str s)) : OpSem P o L E σ (.d (.int .i64 s.size)) [] [] :=
  OpSem.pure fun w0 X D0 D ρ a w hs => by
    refine ⟨.int .i64 s.size, ?_, by simp [SRep, Rep]⟩
    have h1 := evO_rep hs x
    rw [hx] at h1
    simp only [SRep, Rep] at h1
    have hu : P.underlying t = some .string := by
      unfold ti at ht
      split at ht
      · simp only at ht
        split at ht <;> simp_all
      · simp at ht
    simp [execOp, ho, hts, resolve, invoke, builtin, h1, Builtin.len_, run_underlying hu, goInt]
end
end Go.Proofs.Ytikfkipalifohaa.A
