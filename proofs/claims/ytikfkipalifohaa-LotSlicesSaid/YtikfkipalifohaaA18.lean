/- The layer, part 18: pieces of a row of the call's own; copy. -/
import Derived.Test.YtikfkipalifohaaA17
import Derived.Laws.CopyRow
namespace Go.Proofs.Ytikfkipalifohaa.A
open Go Go.RowKit

section
variable {w : World} {D : Nat → Prop} {sz : Nat}
theorem RowsV.take : ∀ {rows : List (List PV)} {vs : List Value} (n : Nat), RowsV w D sz rows vs → RowsV w D sz (rows.take n) (vs.take (n * sz))
  | _, vs, 0, _ => by simp [RowsV]
  | [], vs, n + 1, h => by simp only [RowsV] at h; subst h; simp [RowsV]
  | r :: rs, vs, n + 1, h => by
    simp only [RowsV] at h
    obtain ⟨v1, v2, rfl, h1, h2, h3⟩ := h
    have hl : v1.length = sz := by rw [h2.1, h1]
    simp only [List.take_succ_cons, RowsV]
    refine ⟨v1, v2.take (n * sz), ?_, h1, h2, RowsV.take n h3⟩
    rw [List.take_append, Nat.add_mul, Nat.one_mul, hl, List.take_of_length_le (by omega)]
    congr 2
    omega
theorem RowsV.drop : ∀ {rows : List (List PV)} {vs : List Value} (n : Nat), RowsV w D sz rows vs → RowsV w D sz (rows.drop n) (vs.drop (n * sz))
  | _, vs, 0, h => by simpa using h
  | [], vs, n + 1, h => by simp only [RowsV] at h; subst h; simp [RowsV]
  | r :: rs, vs, n + 1, h => by
    simp only [RowsV] at h
    obtain ⟨v1, v2, rfl, h1, h2, h3⟩ := h
    have hl : v1.length = sz := by rw [h2.1, h1]
    simp only [List.drop_succ_cons]
    have := RowsV.drop n h3
    have e : v1.drop (n * sz + sz) = [] := List.drop_of_length_le (by omega)
    rw [List.drop_append, Nat.add_mul, Nat.one_mul, hl, e, List.nil_append]
    rwa [show n * sz + sz - sz = n * sz by omega]
end

section
variable {P : Program} {o : Oper} {L : Nat → Prop} {E : Nat → SV} {σ : Nat → Option Blk}
/-- The row behind a slice of the call's own, and which piece of it. -/
def pieceS (σ : Nat → Option Blk) : SV → Option (Nat × Nat × Nat)
  | .own i => match σ i with
    | some (.row _ _ rows) => some (i, 0, rows.length)
    | _ => none
  | .view i lo hi => match σ i with
    | some (.row _ _ _) => some (i, lo, hi)
    | _ => none
  | _ => none
/-- A piece, in memory. -/
theorem piece_rep {w0 w : World} {X : Nat → Prop} {D0 : Base} {D : Nat → Prop} {ρ : Nat → Option (Option Nat)} {a : Act} (hs : StD w0 X D0 L D ρ E σ a w) {x : Operand} {i lo hi : Nat} {T : TypeId} {sz : Nat} {rows : List (List PV)} (hx : pieceS σ (evO E x) = some (i, lo, hi)) (hb : σ i = some (.row T sz rows)) :
    lo ≤ hi ∧ hi ≤ rows.length ∧ (∀ r ∈ rows, r.length = sz) ∧ ((ρ i = some none ∧ rows = [] ∧ a.eval x = .slice none 0 0) ∨ ∃ g arr cap c, ρ i = some (some g) ∧ a.eval x = .slice (some ⟨g, lo * sz, none⟩) (hi - lo) c ∧
      w.heap[g]? = some (.cells arr T (0, 0)) ∧ arr.size = cap * sz ∧ 0 < sz ∧ rows.length ≤ cap ∧ cap ≤ maxLen ∧ RowsV w D sz rows (arr.toList.take (rows.length * sz))) := by
  have h1 := evO_rep hs x
  have row : ∀ {g : Nat}, ρ i = some (some g) → ∃ arr cap, w.heap[g]? = some (.cells arr T (0, 0)) ∧ arr.size = cap * sz ∧ 0 < sz ∧ rows.length ≤ cap ∧ cap ≤ maxLen ∧ RowsV w D sz rows (arr.toList.take (rows.length * sz)) := by
    intro g hg
    obtain ⟨r, h5, h6⟩ := hs.blk i _ hb
    rw [hg] at h5
    injection h5 with h5
    subst h5
    obtain ⟨arr, cap, k1, k2, k3, k4, k5, k6⟩ := h6
    refine ⟨arr, cap, k1, k2, k3, k4, k5, ?_⟩
    obtain ⟨vs, j1, j2⟩ := RowsV.of_rows k6
    have jl := j1.length
    have hle : rows.length * sz ≤ cap * sz := Nat.mul_le_mul_right _ k4
    have : arr.toList.take (rows.length * sz) = vs := by
      apply List.ext_getElem?
      intro q
      rw [List.getElem?_take]
      by_cases hq : q < rows.length * sz
      · rw [if_pos hq]
        have hq' : q < vs.length := by omega
        have := j2 q _ (List.getElem?_eq_getElem hq')
        rw [addr_add rfl, cell_at k1] at this
        rw [List.getElem?_eq_getElem hq']
        simpa using this
      · rw [if_neg hq, List.getElem?_eq_none (by omega)]
    rw [this]
    exact j1
  generalize evO E x = y at *
  cases y with
  | own j =>
    simp only [pieceS] at hx
    split at hx
    · rename_i T' sz' rows' hb'
      simp only [Option.some.injEq, Prod.mk.injEq] at hx
      obtain ⟨rfl, rfl, rfl⟩ := hx
      rw [hb] at hb'
      injection hb' with hb'
      injection hb' with e1 e2 e3
      subst e1 e2 e3
      simp only [SRep] at h1
      obtain ⟨r, hr, hO, _⟩ := h1
      rcases hO _ _ _ hb with ⟨rfl, hv⟩ | ⟨g, cap, arr, rfl, hv, hh, ha, hsz, hcm, hrl⟩
      · obtain ⟨r, h5, h6⟩ := hs.blk j _ hb
        rw [hr] at h5
        injection h5 with h5
        subst h5
        simp only at h6
        subst h6
        exact ⟨Nat.zero_le _, Nat.le_refl _, by simp, .inl ⟨hr, rfl, hv⟩⟩
      · obtain ⟨arr', cap', q1, q2, q3, q4, q5, q6⟩ := row hr
        exact ⟨Nat.zero_le _, Nat.le_refl _, hrl, .inr ⟨g, arr', cap', cap, hr, by rw [hv]; simp, q1, q2, q3, q4, q5, q6⟩⟩
    · cases hx
  | view j lo' hi' =>
    simp only [pieceS] at hx
    split at hx
    · rename_i T' sz' rows' hb'
      simp only [Option.some.injEq, Prod.mk.injEq] at hx
      obtain ⟨rfl, rfl, rfl⟩ := hx
      rw [hb] at hb'
      injection hb' with hb'
      injection hb' with e1 e2 e3
      subst e1 e2 e3
      simp only [SRep] at h1
      obtain ⟨g, q, c, p, hr, hlt, hv, he1, he2⟩ := h1
      obtain ⟨k1, k2, k3⟩ := he1 _ _ _ hb
      obtain ⟨_, k5, _⟩ := he2 _ _ _ hb
      obtain ⟨arr', cap', q1, q2, q3, q4, q5, q6⟩ := row hr
      have hq : q = lo' * sz := by
        injection k3 with k3
        injection k3 with k3
        injection k3 with _ k3
      exact ⟨by omega, by omega, k1, .inr ⟨g, arr', cap', c, hr, by rw [hv, hq], q1, q2, q3, q4, q5, q6⟩⟩
    · cases hx
  | _ => simp [pieceS] at hx
/-- A piece of a row that is not empty. -/
theorem sem_view {x : Operand} {t e : TypeId} {lo hi : Option Operand} {i : Nat} {T : TypeId} {rows : List (List PV)} {l h : Int} (ho : o.op = .slice t x lo hi none) (hk : (ti P t).kind = .slice e) (hok : (ti P e).ok = true) (hx : evO E x = .own i) (hb : σ i = some (.row T (ti P e).size rows))
    (hl : bndS E 0 lo = some l) (hh : bndS E rows.length hi = some h) (h0 : 0 ≤ l) (h1 : l < h) (h3 : h ≤ rows.length) : OpSem P o L E σ (.view i l.toNat h.toNat) [] [] :=
  OpSem.pure fun w0 X D0 D ρ a w hs => by
    have hp : pieceS σ (evO E x) = some (i, 0, rows.length) := by simp [pieceS, hx, hb]
    obtain ⟨_, _, hrl, hcase⟩ := piece_rep hs hp hb
    rcases hcase with ⟨_, hrows, _⟩ | ⟨g, arr, cap, c, hr, hv, hh', ha, hsz, hlc, hcm, hrv⟩
    · subst hrows; simp at h3; omega
    · have h2 := evO_rep hs x
      rw [hx] at h2
      simp only [SRep] at h2
      obtain ⟨r, hr', hO, _⟩ := h2
      rw [hr] at hr'
      injection hr' with hr'
      subst hr'
      rcases hO _ _ _ hb with ⟨hr2, _⟩ | ⟨g', cap2, arr2, hr2, hv2, hh2, ha2, _, _, _⟩
      · cases hr2
      · injection hr2 with hr2
        subst hr2
        rw [hh'] at hh2
        injection hh2 with hh2
        injection hh2 with hh2
        subst hh2
        have ecap : cap2 = cap := Nat.eq_of_mul_eq_mul_right hsz (by rw [← ha, ← ha2])
        subst ecap
        obtain ⟨hu, he⟩ := elem_of hk
        have hso : (sizeOf (P.elem t)).run P w = .ok (ti P e).size w := by rw [he]; exact run_sizeOf' hok w
        have key : (Instr.slice t (.slice (some ⟨g, 0, none⟩) rows.length cap2) (lo.map a.eval) (hi.map a.eval) none).run P w = ((sizeOf (P.elem t)).run P w).andThen (fun s w => .ok (sliced (some ⟨g, 0, none⟩) l.toNat h.toNat cap2 s) w) := by
          rcases bnd_eval hs hl with ⟨rfl, rfl⟩ | ⟨xl, kl, rfl, el⟩ <;> rcases bnd_eval hs hh with ⟨rfl, rfl⟩ | ⟨xh, kh, rfl, eh⟩
          · simpa using run_slice_all w t (some ⟨g, 0, none⟩) rows.length cap2 hu
          · simpa [eh] using run_slice_h w t (some ⟨g, 0, none⟩) rows.length cap2 hu kh h (by omega) (by omega)
          · simpa [el] using run_slice_l w t (some ⟨g, 0, none⟩) rows.length cap2 hu kl l h0 (by omega)
          · simpa [el, eh] using run_slice_lh w t (some ⟨g, 0, none⟩) rows.length cap2 hu kl kh l h h0 (by omega) (by omega)
        refine ⟨sliced (some ⟨g, 0, none⟩) l.toNat h.toNat cap2 (ti P e).size, by simp only [execOp, ho, hv2, Sem.run_bind, Option.map_none, run_sliceAt_slice w t _ _ _ _ hu, key, hso, Result.andThen_ok]; rfl, ?_⟩
        simp only [SRep]
        have hne : ¬ cap2 = l.toNat := by omega
        refine ⟨g, l.toNat * (ti P e).size, cap2 - l.toNat, .pointer (some ⟨g, (h.toNat - 1) * (ti P e).size + 0, none⟩), hr, by omega, ?_, ?_, ?_⟩
        · simp only [sliced, hne, if_false, Option.map_some]
          rw [addr_add rfl]
          simp
        · intro T' sz' rows' hb'
          rw [hb] at hb'
          injection hb' with hb'
          injection hb' with e1 e2 e3
          subst e1 e2 e3
          exact ⟨hrl, by omega, by simp⟩
        · intro T' sz' rows' hb'
          rw [hb] at hb'
          injection hb' with hb'
          injection hb' with e1 e2 e3
          subst e1 e2 e3
          exact ⟨hrl, by omega, rfl⟩
/-- What is copied. -/
def srcS (σ : Nat → Option Blk) : SV → Option (List (List PV))
  | .view j lo hi => match σ j with
    | some (.row _ _ rows) => some ((rows.take hi).drop lo)
    | _ => none
  | x => rowsS σ x
theorem src_rep {w0 w : World} {X : Nat → Prop} {D0 : Base} {D : Nat → Prop} {ρ : Nat → Option (Option Nat)} {a : Act} (hs : StD w0 X D0 L D ρ E σ a w) {x : Operand} {rows : List (List PV)} {sz : Nat} (hx : srcS σ (evO E x) = some rows) (hl : ∀ r ∈ rows, r.length = sz) :
    ∃ A cap vs, a.eval x = .slice A rows.length cap ∧ RowsV w D sz rows vs ∧ (rows = [] ∨ ∃ ad, A = some ad ∧ ∀ j u, vs[j]? = some u → w.cell? (ad.add j) = some u) := by
  have plain : rowsS σ (evO E x) = some rows → ∃ A cap vs, a.eval x = .slice A rows.length cap ∧ RowsV w D sz rows vs ∧ (rows = [] ∨ ∃ ad, A = some ad ∧ ∀ j u, vs[j]? = some u → w.cell? (ad.add j) = some u) := by
    intro hx
    obtain ⟨A, cap, hy1, hy2, hy3⟩ := rows_rep hs hx
    rcases hy3 with rfl | ⟨ad, sz', rfl, hr⟩
    · exact ⟨A, cap, [], hy1, rfl, .inl rfl⟩
    · by_cases hne : rows = []
      · subst hne; exact ⟨_, cap, [], hy1, rfl, .inl rfl⟩
      · have e' : sz' = sz := by
          obtain ⟨r, rs, rfl⟩ := List.exists_cons_of_ne_nil hne
          simp only [RepRows] at hr
          rw [← hr.1]; exact hl r (by simp)
        subst e'
        obtain ⟨vs, j1, j2⟩ := RowsV.of_rows hr
        exact ⟨_, cap, vs, hy1, j1, .inr ⟨ad, rfl, fun j u hu => by simpa using j2 j u hu⟩⟩
  cases hy : evO E x with
  | view j lo hi =>
    rw [hy] at hx
    simp only [srcS] at hx
    split at hx
    · rename_i T sz' rows' hb
      injection hx with hx
      have hp : pieceS σ (evO E x) = some (j, lo, hi) := by simp [pieceS, hy, hb]
      obtain ⟨k1, k2, k3, hcase⟩ := piece_rep hs hp hb
      have hrl : rows.length = hi - lo := by rw [← hx]; simp; omega
      rcases hcase with ⟨_, hr, hv⟩ | ⟨g, arr, cap, c, hr, hv, hh, ha, hsz, hlc, hcm, hrv⟩
      · subst hr
        simp at hx
        subst hx
        exact ⟨none, 0, [], hv, rfl, .inl rfl⟩
      · by_cases hne : rows = []
        · subst hne
          simp at hrl
          exact ⟨_, c, [], by rw [hv, show hi - lo = 0 by omega]; rfl, rfl, .inl rfl⟩
        · have e' : sz' = sz := by
            obtain ⟨r, rs, hrr⟩ := List.exists_cons_of_ne_nil hne
            rw [← hl r (by rw [hrr]; simp)]
            refine (k3 r ?_).symm
            have : r ∈ (rows'.take hi).drop lo := by rw [hx, hrr]; simp
            exact List.mem_of_mem_take (List.mem_of_mem_drop this)
          subst e'
          refine ⟨_, c, ((arr.toList.take (rows'.length * sz')).take (hi * sz')).drop (lo * sz'), by rw [hv, hrl], by rw [← hx]; exact (hrv.take hi).drop lo, .inr ⟨_, rfl, fun q u hu => ?_⟩⟩
          rw [addr_add rfl, cell_at hh]
          rw [List.getElem?_drop, List.getElem?_take] at hu
          split at hu
          · rw [List.getElem?_take] at hu
            split at hu
            · simpa using hu
            · cases hu
          · cases hu
    · cases hx
  | _ =>
    rw [hy] at hx
    exact plain (by rw [hy]; simpa only [srcS] using hx)
/-- copy. -/
theorem sem_copy {x y : Operand} {ts : Array TypeId} {t t' e : TypeId} {i lo hi : Nat} {T : TypeId} {sz : Nat} {rows src : List (List PV)} (ho : o.op = .call { callee := .builtin .copy, args := #[x, y], argTypes := ts }) (hts : ts = #[t, t']) (hk : (ti P t).kind = .slice e) (hok : (ti P e).ok = true) (hsize : (ti P e).size = sz)
    (hx : pieceS σ (evO E x) = some (i, lo, hi)) (hb : σ i = some (.row T sz rows)) (hy : srcS σ (evO E y) = some src) (hl : ∀ r ∈ src, r.length = sz) :
    OpSem P o L E σ (.d (.int .i64 (Nat.min src.length (hi - lo)))) [(i, some (.row T sz (splice rows lo (src.take (hi - lo)))))] [] :=
  OpSem.of_run fun w0 X D0 D ρ a w hs => by
    rw [updB_one]
    obtain ⟨p1, p2, hrl, hcase⟩ := piece_rep hs hx hb
    obtain ⟨A, scap, svs, hsv, hsr, hsc⟩ := src_rep hs hy hl
    have hu := ti_slice hk
    have hslen := hsr.length
    have hlt : (src.take (hi - lo)).length = Nat.min src.length (hi - lo) := by rw [List.length_take, Nat.min_comm]
    rcases hcase with ⟨hr, hrows, hv⟩ | ⟨g, arr, cap, c, hr, hv, hh, ha, hsz, hlc, hcm, hrv⟩
    · subst hrows
      simp at p2
      subst p2
      have hlo : lo = 0 := by omega
      subst hlo
      have hσ : setB σ i (some (.row T sz (splice ([] : List (List PV)) 0 (src.take (0 - 0))))) = σ := by
        funext q
        by_cases hq : i = q
        · subst hq; simp [setB, splice, hb]
        · simp [setB, hq]
      rw [hσ]
      refine ⟨goInt 0, w, D, ρ, ?_, hs.more fun _ h => .inl h, ?_⟩
      · have hf : (Builtin.firstCells sz 0 (.slice A src.length scap)).run P w = .ok #[] w := by
          cases A with
          | none => rfl
          | some ad => simpa [Builtin.firstCells] using run_loadCells_list (P := P) w ad [] (by simp)
        simp [execOp, ho, hts, resolve, invoke, builtin, hv, hsv, Builtin.copy_, run_underlying hu, Builtin.lenOf, run_sizeOf' hok, hsize, Nat.min, hf]
      · simp [SRep, Rep, goInt, Nat.min]
    · obtain ⟨hD, hM, hltw⟩ := hs.apart i _ g hb rfl hr
      let n := Nat.min src.length (hi - lo)
      let new := src.take (hi - lo)
      let nv := svs.take (n * sz)
      have hn1 : n ≤ src.length := Nat.min_le_left _ _
      have hn2 : n ≤ hi - lo := Nat.min_le_right _ _
      have hnew : src.take n = new := by
        simp only [n, new]
        by_cases h : src.length ≤ hi - lo
        · rw [show Nat.min src.length (hi - lo) = src.length from Nat.min_eq_left h, List.take_length, List.take_of_length_le h]
        · rw [show Nat.min src.length (hi - lo) = hi - lo from Nat.min_eq_right (by omega)]
      have hnv : RowsV w D sz new nv := by rw [← hnew]; exact hsr.take n
      have hnvl : nv.length = n * sz := by
        simp only [nv, List.length_take, hslen]
        exact Nat.min_eq_left (Nat.mul_le_mul_right _ hn1)
      have hnewl : new.length = n := hlt
      have hfit : (lo + n) * sz ≤ cap * sz := Nat.mul_le_mul_right _ (by omega)
      rw [Nat.add_mul] at hfit
      have hfirst : (Builtin.firstCells sz n (.slice A src.length scap)).run P w = .ok nv.toArray w := by
        rcases hsc with rfl | ⟨ad, rfl, hcell⟩
        · have hn0 : n = 0 := by simp [n, Nat.min]
          have : nv = [] := List.eq_nil_of_length_eq_zero (by rw [hnvl, hn0]; simp)
          rw [this, hn0]
          cases A with
          | none => rfl
          | some ad => simpa [Builtin.firstCells] using run_loadCells_list (P := P) w ad [] (by simp)
        · have := run_loadCells_list (P := P) w ad nv (fun j v hj => hcell j v (by
            simp only [nv, List.getElem?_take] at hj
            split at hj
            · exact hj
            · cases hj))
          rw [hnvl] at this
          simpa [Builtin.firstCells] using this
      let arr' := (arr.toList.take (lo * sz) ++ nv ++ arr.toList.drop (lo * sz + nv.length)).toArray
      have hstore : (storeCells ⟨g, lo * sz, none⟩ nv).run P w = .ok () (w.setRow g arr') := by
        have := run_storeCells_at P g (lo * sz) T nv 0 arr w hh (by omega) (fun v hv => hnv.one v hv)
        simpa [arr'] using this
      have hrun : (Builtin.copy_ #[t, t'] o.type #[.slice (some ⟨g, lo * sz, none⟩) (hi - lo) c, .slice A src.length scap]).run P w = .ok (goInt n) (w.setRow g arr') := by
        have hf2 : (Builtin.firstCells sz (src.length.min (hi - lo)) (.slice A src.length scap)).run P w = .ok nv.toArray w := hfirst
        simp [Builtin.copy_, run_underlying hu, Builtin.lenOf, run_sizeOf' hok, hsize, hf2, hstore, n]
      refine ⟨goInt n, w.setRow g arr', D, ρ, by simp only [execOp, ho, hts, resolve, Sem.run_bind, Sem.run_pure, Result.andThen_ok, invoke, builtin, List.map_toArray, List.map_cons, List.map_nil, hv, hsv, hrun], ?_, by simp [SRep, Rep, goInt, n]⟩
      have hh' := setRow_heap w g arr arr' T _ hh
      have ha' : arr'.size = cap * sz := by
        simp only [arr', List.size_toArray, List.length_append, List.length_take, List.length_drop, Array.length_toList, hnvl]
        omega
      have hsplen : (splice rows lo new).length = rows.length := splice_length (by rw [hnewl]; omega)
      have hl' : ∀ r ∈ splice rows lo new, r.length = sz := by
        intro r hr
        simp only [splice, List.mem_append] at hr
        rcases hr with (hr | hr) | hr
        · exact hrl r (List.mem_of_mem_take hr)
        · exact hl r (List.mem_of_mem_take hr)
        · exact hrl r (List.mem_of_mem_drop hr)
      have c' : Chg w (w.setRow g arr') D ρ ρ σ (setB σ i (some (.row T sz (splice rows lo new)))) (fun k => k = g) (fun q => q = i) := by
        refine ⟨fun _ _ h => h, by simp, fun k _ hk => setRow_other w g k _ hk, fun k hk e => hD (e ▸ hk), fun q b hn hb' => ?_, fun q r v hn hr2 ho' => ?_, fun q g' j' off' v hn hr2 he => ?_⟩
        · have hne : i ≠ q := fun e => hn e.symm
          simp only [setB, if_neg hne] at hb'
          exact ⟨hb', fun g' hl' hr' e => hne (hs.inj i q _ _ g hb hb' rfl hl' hr (e ▸ hr'))⟩
        · subst hn
          simp only [setB, if_true]
          refine ⟨fun T' sz' rows' hb' => ?_, fun _ h => by simp at h⟩
          injection hb' with hb'
          injection hb' with e1 e2 e3
          subst e1 e2 e3
          rcases ho'.1 _ _ _ hb with ⟨rfl, _⟩ | ⟨g', cap', arr2, rfl, hv', hh2, ha2, hp2, hc2, _⟩
          · rw [hr] at hr2; cases hr2
          · rw [hr] at hr2
            injection hr2 with hr2
            injection hr2 with hr2
            subst hr2
            rw [hh] at hh2
            injection hh2 with hh2
            injection hh2 with hh2
            subst hh2
            exact .inr ⟨g, cap', arr', rfl, by rw [hv', hsplen], hh', by rw [ha', ← ha, ha2], hp2, hc2, hl'⟩
        · subst hn
          simp only [setB, if_true]
          intro T' sz' rows' hb'
          injection hb' with hb'
          injection hb' with e1 e2 e3
          subst e1 e2 e3
          obtain ⟨q1, q2, q3⟩ := he _ _ _ hb
          exact ⟨hl', by rw [hsplen]; exact q2, q3⟩
      have hsame := c'.same hs
      refine (hs.change c' (fun q r hr' => .inl (hs.given q r hr')) (hs.kept.setRow hM _) (fun q b hn hb' => ?_) (fun q b g' hn hb' _ hr' => ?_) (fun q _ r hr' _ => hr') (fun q q2 b d g' hn h2 h3 l3 l4 r1 r2 => ?_))
      · subst hn
        simp only [setB, if_true, Option.some.injEq] at hb'
        subst hb'
        refine ⟨some g, hr, RowIn.of_values (vs := (arr.toList.take (rows.length * sz)).take (lo * sz) ++ nv ++ (arr.toList.take (rows.length * sz)).drop ((lo + n) * sz)) hh' ha' hsz (by rw [hsplen]; exact hlc) hcm ?_ ?_⟩
        · have h3 := ((hrv.take lo).append hnv).append (hrv.drop (lo + n))
          simp only [splice, hnewl]
          exact h3.mono hsame (fun _ h => h)
        · rw [hsplen]
          have hlen3 : lo * sz + n * sz ≤ rows.length * sz := by
            rw [← Nat.add_mul]; exact Nat.mul_le_mul_right _ (by omega)
          apply List.ext_getElem?
          intro q
          simp only [arr', List.getElem?_take, List.getElem?_append, List.length_append, List.length_take, List.getElem?_drop, Array.length_toList, hnvl, Nat.add_mul]
          have hrc : rows.length * sz ≤ arr.size := by rw [ha]; exact Nat.mul_le_mul_right _ hlc
          by_cases c1 : q < lo * sz
          · simp (disch := omega) only [c1, if_true, if_pos]
            repeat' split
            all_goals first | rfl | omega
          · by_cases c2 : q < lo * sz + n * sz
            · repeat' split
              all_goals first | rfl | omega | (congr 1; omega)
            · repeat' split
              all_goals first | rfl | omega | (congr 1; omega) | (symm; apply List.getElem?_eq_none; simp; omega)
      · subst hn
        rw [hr] at hr'
        injection hr' with hr'
        injection hr' with hr'
        subst hr'
        exact ⟨hD, hM, by simpa using hltw⟩
      · subst hn
        by_cases e : q = q2
        · exact e
        · simp only [setB, if_neg e] at h3
          exact hs.inj q q2 _ _ g' hb h3 rfl l4 r1 r2
end

section
variable {P : Program} {ops : Array Oper} {E0 : Nat → SV} {σ0 : Nat → Option Blk} {nx0 : Nat} {K : Env → Sto → Nat → List Skel → Prop} {os : List Oper} {E : Env} {σ : Sto} {nx : Nat} {sk : List Skel} {o : Oper}
theorem rg_sem {x : SV} {wr : Sto} {m rd : List Nat} (hg : o.guard = none) (hop : ∀ L' E' σ', (∀ y ∈ o.op.operands, evO E' y = evO (lk E) y) → (∀ i ∈ rd, σ' i = lkB σ i) → (∀ q ∈ m, ¬ L' q) → OpSem P o L' E' σ' x wr m) (hm : ∀ q ∈ m, nx ≤ q)
    (h : RG P ops E0 σ0 nx0 K os (setE E o.dst x) (setW σ wr) (bump nx m) ((wr.map (·.1), rd) :: sk)) : RG P ops E0 σ0 nx0 K (o :: os) E σ nx sk := by
  refine rg_step (e := ⟨x, wr, m, rd⟩) (fun L' E' σ' hE hB hm' => rsem_plain hg (hop L' E' σ' (fun y hy => ?_) hB hm')) hm h
  cases y with
  | tmp t => exact hE t (List.mem_append_left _ (List.mem_filterMap.2 ⟨.tmp t, by simpa using hy, rfl⟩))
  | _ => rfl
theorem rg_view {x : Operand} {t e : TypeId} {lo hi : Option Operand} {i sz : Nat} {T : TypeId} {rows : List (List PV)} {l h : Int} (hg : o.guard = none) (ho : o.op = .slice t x lo hi none) (hk : (ti P t).kind = .slice e) (hok : (ti P e).ok = true) (hx : evO (lk E) x = .own i) (hb : lkB σ i = some (.row T sz rows)) (hsz : (ti P e).size = sz)
    (hl : bndE (evO (lk E)) 0 lo = some l) (hh : bndE (evO (lk E)) rows.length hi = some h) (h0 : 0 ≤ l) (h1 : l < h) (h3 : h ≤ rows.length) (hn : RG P ops E0 σ0 nx0 K os (setE E o.dst (.view i l.toNat h.toNat)) σ nx (([], [i]) :: sk)) : RG P ops E0 σ0 nx0 K (o :: os) E σ nx sk := by
  subst hsz
  refine rg_sem (wr := []) (m := []) (rd := [i]) hg (fun L' E' σ' hev hB _ => ?_) (by simp) hn
  have hbe : ∀ (len : Int) (b : Option Operand), (∀ y, b = some y → y ∈ (Op.slice t x lo hi none).operands) → bndE (evO (lk E)) len b = bndS E' len b := by
    intro len b hb'
    cases b with
    | none => rfl
    | some y => rw [← bnd_eq]; simp only [bndE]; rw [hev y (by rw [ho]; exact hb' y rfl)]
  refine sem_view ho hk hok (by rw [hev x (by rw [ho]; simp [Op.operands])]; exact hx) (by rw [hB i (by simp)]; exact hb) ?_ ?_ h0 h1 h3
  · rw [← hbe 0 lo (fun y hy => by subst hy; simp [Op.operands])]; exact hl
  · rw [← hbe _ hi (fun y hy => by subst hy; simp [Op.operands])]; exact hh
theorem rg_copy {x y : Operand} {t t' e : TypeId} {i lo hi sz : Nat} {T : TypeId} {rows src : List (List PV)} {rd : List Nat} (hg : o.guard = none) (ho : o.op = .call { callee := .builtin .copy, args := #[x, y], argTypes := #[t, t'] }) (hk : (ti P t).kind = .slice e) (hok : (ti P e).ok = true) (hsize : (ti P e).size = sz)
    (hx : pieceS (lkB σ) (evO (lk E) x) = some (i, lo, hi)) (hb : lkB σ i = some (.row T sz rows)) (hy : srcS (lkB σ) (evO (lk E) y) = some src) (hl : ∀ r ∈ src, r.length = sz)
    (hrd : ∀ σ', (∀ j ∈ rd, σ' j = lkB σ j) → pieceS σ' (evO (lk E) x) = pieceS (lkB σ) (evO (lk E) x) ∧ σ' i = lkB σ i ∧ srcS σ' (evO (lk E) y) = srcS (lkB σ) (evO (lk E) y))
    (hn : RG P ops E0 σ0 nx0 K os (setE E o.dst (.d (.int .i64 (Nat.min src.length (hi - lo))))) (putS σ i (some (.row T sz (splice rows lo (src.take (hi - lo)))))) nx (([i], rd) :: sk)) : RG P ops E0 σ0 nx0 K (o :: os) E σ nx sk := by
  refine rg_sem (wr := [(i, some (.row T sz (splice rows lo (src.take (hi - lo)))))]) (m := []) (rd := rd) hg (fun L' E' σ' hev hB _ => ?_) (by simp) hn
  obtain ⟨r1, r2, r3⟩ := hrd σ' hB
  have ex := hev x (by rw [ho]; simp [Op.operands, Call.operands])
  have ey := hev y (by rw [ho]; simp [Op.operands, Call.operands])
  exact sem_copy ho rfl hk hok hsize (by rw [ex, r1]; exact hx) (by rw [r2]; exact hb) (by rw [ey, r3]; exact hy) hl
end
end Go.Proofs.Ytikfkipalifohaa.A
