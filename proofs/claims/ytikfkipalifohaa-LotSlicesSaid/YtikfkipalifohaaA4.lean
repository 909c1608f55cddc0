/- The layer, part 4: rows of the call's own: literals, make, append, stores; values built. -/
import Derived.Test.YtikfkipalifohaaA3
namespace Go.Proofs.Ytikfkipalifohaa.A
open Go Go.RowKit

/-! ### Rows by their cells' values -/
def CellsV (w : World) (D : Nat → Prop) (r : List PV) (vs : List Value) : Prop := vs.length = r.length ∧ ∀ (j : Nat) (p : PV) (v : Value), r[j]? = some p → vs[j]? = some v → Rep w D p v
def RowsV (w : World) (D : Nat → Prop) (sz : Nat) : List (List PV) → List Value → Prop
  | [], vs => vs = []
  | r :: rs, vs => ∃ v1 v2, vs = v1 ++ v2 ∧ r.length = sz ∧ CellsV w D r v1 ∧ RowsV w D sz rs v2
section
variable {w w' : World} {D : Nat → Prop} {sz : Nat}
theorem CellsV.of_cells {ad : Addr} {r : List PV} {o : Nat} (h : RepCells w D ad r o) : ∃ vs, CellsV w D r vs ∧ ∀ j v, vs[j]? = some v → w.cell? (ad.add (o + j)) = some v := by
  obtain ⟨vs, h1, h2, h3⟩ := reps_of_cells (σ := fun _ => none) (ρ := fun _ => none) r o h
  refine ⟨vs, ⟨h1, fun j p v hp hv => ?_⟩, h3⟩
  obtain ⟨v', e, hr⟩ := h2.get j (.d p) (by simp [hp])
  rw [hv] at e
  injection e with e
  subst e
  simpa only [SRep] using hr
theorem CellsV.to_cells {ad : Addr} {r : List PV} {o : Nat} {vs : List Value} (h : CellsV w D r vs) (hc : ∀ j v, vs[j]? = some v → w.cell? (ad.add (o + j)) = some v) : RepCells w D ad r o :=
  RepCells.of_get fun j p hj => by
    have hlt : j < vs.length := by have := (List.getElem?_eq_some_iff.1 hj).1; have := h.1; omega
    have hv := List.getElem?_eq_getElem hlt
    exact ⟨_, hc j _ hv, h.2 j p _ hj hv⟩
theorem RowsV.of_rows {ad : Addr} : ∀ {rows : List (List PV)} {o : Nat}, RepRows w D ad sz rows o → ∃ vs, RowsV w D sz rows vs ∧ ∀ j v, vs[j]? = some v → w.cell? (ad.add (o + j)) = some v
  | [], _, _ => ⟨[], rfl, by simp⟩
  | r :: rs, o, h => by
    simp only [RepRows] at h
    obtain ⟨h1, h2, h3⟩ := h
    obtain ⟨v1, k1, k2⟩ := CellsV.of_cells h2
    obtain ⟨v2, k3, k4⟩ := RowsV.of_rows h3
    refine ⟨v1 ++ v2, ⟨v1, v2, rfl, h1, k1, k3⟩, fun j v hv => ?_⟩
    by_cases hj : j < v1.length
    · rw [List.getElem?_append_left hj] at hv
      exact k2 j v hv
    · rw [List.getElem?_append_right (by omega)] at hv
      have := k4 _ v hv
      have e : o + sz + (j - v1.length) = o + j := by have := k1.1; omega
      rwa [e] at this
theorem RowsV.length : ∀ {rows : List (List PV)} {vs : List Value}, RowsV w D sz rows vs → vs.length = rows.length * sz
  | [], vs, h => by simp only [RowsV] at h; simp [h]
  | r :: rs, vs, h => by
    simp only [RowsV] at h
    obtain ⟨v1, v2, rfl, h1, h2, h3⟩ := h
    have := RowsV.length h3
    have := h2.1
    simp only [List.length_append, List.length_cons, Nat.add_mul]
    omega
theorem RowsV.to_rows {ad : Addr} : ∀ {rows : List (List PV)} {o : Nat} {vs : List Value}, RowsV w D sz rows vs → (∀ j v, vs[j]? = some v → w.cell? (ad.add (o + j)) = some v) → RepRows w D ad sz rows o
  | [], _, _, _, _ => by simp [RepRows]
  | r :: rs, o, vs, h, hc => by
    simp only [RowsV] at h
    obtain ⟨v1, v2, rfl, h1, h2, h3⟩ := h
    simp only [RepRows]
    refine ⟨h1, h2.to_cells fun j v hv => hc j v ?_, RowsV.to_rows h3 fun j v hv => ?_⟩
    · rw [List.getElem?_append_left (List.getElem?_eq_some_iff.1 hv).1]; exact hv
    · have := hc (v1.length + j) v (by rw [List.getElem?_append_right (by omega)]; simpa using hv)
      have e : o + (v1.length + j) = o + sz + j := by have := h2.1; omega
      rwa [e] at this
theorem CellsV.mono {D' : Nat → Prop} (hs : Same D w w') (hd : ∀ k, D k → D' k) {r : List PV} {vs : List Value} (h : CellsV w D r vs) : CellsV w' D' r vs := ⟨h.1, fun j p v hp hv => Rep.mono hs hd p v (h.2 j p v hp hv)⟩
theorem RowsV.mono {D' : Nat → Prop} (hs : Same D w w') (hd : ∀ k, D k → D' k) : ∀ {rows : List (List PV)} {vs : List Value}, RowsV w D sz rows vs → RowsV w' D' sz rows vs
  | [], _, h => h
  | r :: rs, vs, h => by
    simp only [RowsV] at h ⊢
    obtain ⟨v1, v2, rfl, h1, h2, h3⟩ := h
    exact ⟨v1, v2, rfl, h1, h2.mono hs hd, RowsV.mono hs hd h3⟩
theorem RowsV.append : ∀ {rows rows2 : List (List PV)} {vs vs2 : List Value}, RowsV w D sz rows vs → RowsV w D sz rows2 vs2 → RowsV w D sz (rows ++ rows2) (vs ++ vs2)
  | [], _, _, _, h, h2 => by simp only [RowsV] at h; subst h; simpa using h2
  | r :: rs, _, _, _, h, h2 => by
    simp only [RowsV] at h
    obtain ⟨v1, v2, rfl, k1, k2, k3⟩ := h
    exact ⟨v1, _, by rw [List.append_assoc], k1, k2, RowsV.append k3 h2⟩
theorem RowsV.one : ∀ {rows : List (List PV)} {vs : List Value}, RowsV w D sz rows vs → ∀ u ∈ vs, u.oneCell' = true
  | [], _, h, u, hu => by simp only [RowsV] at h; subst h; cases hu
  | r :: rs, _, h, u, hu => by
    simp only [RowsV] at h
    obtain ⟨v1, v2, rfl, k1, k2, k3⟩ := h
    rcases List.mem_append.1 hu with hu | hu
    · obtain ⟨j, hj, rfl⟩ := List.mem_iff_getElem.1 hu
      have hj' : j < r.length := by have := k2.1; omega
      exact Rep.oneCell (k2.2 j _ _ (List.getElem?_eq_getElem hj') (List.getElem?_eq_getElem hj))
    · exact RowsV.one k3 u hu
theorem RowsV.lens : ∀ {rows : List (List PV)} {vs : List Value}, RowsV w D sz rows vs → ∀ r ∈ rows, r.length = sz
  | [], _, _, _, hr => by cases hr
  | r :: rs, _, h, q, hq => by
    simp only [RowsV] at h
    obtain ⟨v1, v2, rfl, k1, k2, k3⟩ := h
    rcases List.mem_cons.1 hq with rfl | hq
    · exact k1
    · exact RowsV.lens k3 q hq
/-- A row that lies at the head of a block. -/
theorem RowIn.of_values {g : Nat} {T : TypeId} {rows : List (List PV)} {arr : Array Value} {cap : Nat} {vs : List Value} (hh : w.heap[g]? = some (.cells arr T (0, 0))) (ha : arr.size = cap * sz) (hsz : 0 < sz) (hl : rows.length ≤ cap) (hc : cap ≤ maxLen) (hv : RowsV w D sz rows vs) (ht : arr.toList.take (rows.length * sz) = vs) : RowIn w D g T sz rows := by
  refine ⟨arr, cap, hh, ha, hsz, hl, hc, hv.to_rows fun j v hj => ?_⟩
  rw [addr_add rfl, cell_at hh]
  rw [← ht, List.getElem?_take] at hj
  split at hj
  · simpa using hj
  · cases hj
end

section
variable {P : Program} {o : Oper} {L : Nat → Prop} {E : Nat → SV} {σ : Nat → Option Blk}
/-- The elements of a slice. -/
def rowsS (σ : Nat → Option Blk) : SV → Option (List (List PV))
  | .d (.list rows) => some rows
  | .nils => some []
  | .own i => match σ i with
    | some (.row _ _ rows) => some rows
    | some (.ice rows) => some rows
    | _ => none
  | _ => none
theorem rows_rep {w0 w : World} {X : Nat → Prop} {D0 : Base} {D : Nat → Prop} {ρ : Nat → Option (Option Nat)} {a : Act} (hs : StD w0 X D0 L D ρ E σ a w) {x : Operand} {rows : List (List PV)} (hx : rowsS σ (evO E x) = some rows) :
    ∃ A cap, a.eval x = .slice A rows.length cap ∧ rows.length ≤ maxLen ∧ (rows = [] ∨ ∃ ad sz, A = some ad ∧ RepRows w D ad sz rows 0) := by
  have h1 := evO_rep hs x
  generalize evO E x = y at *
  have dat : ∀ {rows : List (List PV)} {v : Value}, Rep w D (.list rows) v → ∃ A cap, v = .slice A rows.length cap ∧ rows.length ≤ maxLen ∧ (rows = [] ∨ ∃ ad sz, A = some ad ∧ RepRows w D ad sz rows 0) := by
    intro rows v h
    simp only [Rep] at h
    rcases h with ⟨rfl, ad, c, hv⟩ | ⟨ad, cap, sz, hv, k1, k2, _, _, k3⟩
    · exact ⟨_, _, hv, by simp, .inl rfl⟩
    · exact ⟨_, _, hv, Nat.le_trans k1 k2, .inr ⟨ad, sz, rfl, k3⟩⟩
  cases y with
  | d p =>
    cases p with
    | list rows' =>
      simp only [rowsS, Option.some.injEq] at hx
      subst hx
      simp only [SRep] at h1
      exact dat h1
    | _ => simp [rowsS] at hx
  | nils =>
    simp only [rowsS, Option.some.injEq] at hx
    subst hx
    simp only [SRep] at h1
    exact ⟨_, _, h1, by simp, .inl rfl⟩
  | own i =>
    simp only [SRep] at h1
    obtain ⟨r, hr, hO, hI⟩ := h1
    simp only [rowsS] at hx
    split at hx
    · rename_i T sz rows' hb
      injection hx with hx
      subst hx
      rcases hO T sz _ hb with ⟨rfl, hv⟩ | ⟨g, cap, arr, rfl, hv, hh, ha, hsz, hcm, hrl⟩
      · obtain ⟨r, h5, h6⟩ := hs.blk i _ hb
        rw [hr] at h5
        injection h5 with h5
        subst h5
        simp only at h6
        subst h6
        exact ⟨_, _, hv, by simp, .inl rfl⟩
      · obtain ⟨r, h5, h6⟩ := hs.blk i _ hb
        rw [hr] at h5
        injection h5 with h5
        subst h5
        obtain ⟨arr', cap', k1, k2, k3, k4, k5, k6⟩ := h6
        exact ⟨_, _, hv, Nat.le_trans k4 k5, .inr ⟨_, _, rfl, k6⟩⟩
    · rename_i rows' hb
      injection hx with hx
      subst hx
      exact dat (hI _ hb)
    · cases hx
  | _ => simp [rowsS] at hx

/-- The type of a row's elements. -/
structure ElT (P : Program) (t e : TypeId) (sz : Nat) : Prop where
  slice : (ti P t).kind = .slice e
  ok : (ti P e).ok = true
  size : (ti P e).size = sz
  pos : 0 < sz
  zlen : (ti P e).zero.length = sz

theorem own_alloc {w : World} {D : Nat → Prop} {ρ : Nat → Option (Option Nat)} {m g : Nat} {b : Option Blk} {T : TypeId} {sz cap : Nat} {rows : List (List PV)} {arr : Array Value} (hh : w.heap[g]? = some (.cells arr T (0, 0))) (ha : arr.size = cap * sz) (hp : 0 < sz) (hc : cap ≤ maxLen) (hl : ∀ r ∈ rows, r.length = sz) (hb : b = some (.row T sz rows)) :
    SRep w D (setR ρ m (some g)) (setB σ m b) (.own m) (.slice (some ⟨g, 0, none⟩) rows.length cap) := by
  simp only [SRep]
  refine ⟨some g, setR_self _ _ _, fun T' sz' rows' hb' => ?_, fun rows' hb' => ?_⟩
  · rw [setB_self, hb] at hb'
    injection hb' with hb'
    injection hb' with e1 e2 e3
    subst e1 e2 e3
    exact .inr ⟨g, cap, arr, rfl, rfl, hh, ha, hp, hc, hl⟩
  · rw [setB_self, hb] at hb'
    simp at hb'

/-- What is no more. -/
def killS (k : Option Nat) : Sto := match k with | some i => [(i, none)] | none => []
/-- append. What was the row's is the new one's. -/
theorem sem_append {x y : Operand} {ts : Array TypeId} {t e : TypeId} {sz m : Nat} {rows new : List (List PV)} {k : Option Nat} (ho : o.op = .call { callee := .builtin .append, args := #[x, y], argTypes := ts }) (hts : ts = #[t, t]) (ht : ElT P t e sz)
    (hx : (evO E x = .nils ∧ rows = [] ∧ k = none) ∨ ∃ i, evO E x = .own i ∧ σ i = some (.row e sz rows) ∧ k = some i) (hy : rowsS σ (evO E y) = some new) (hl : ∀ r ∈ new, r.length = sz) (hlim : (rows.length + new.length) * (ti P e).bytes ≤ 140737488355328) (h63 : rows.length + new.length ≤ maxLen) (hm : ¬ L m) :
    OpSem P o L E σ (.own m) ((m, some (.row e sz (rows ++ new))) :: killS k) [m] :=
  OpSem.of_run fun w0 X D0 D ρ a w hs => by
    obtain ⟨it, d, z, hi, hu, hz, hsz, hby, hzero, _⟩ := ti_spec ht.ok
    have hts' := ti_slice ht.slice
    have hisz : it.size = sz := by rw [← hsz]; exact ht.size
    have hzs : z.cells.size = sz := by have := ht.zlen; rw [hzero] at this; simpa using this
    -- what is appended to
    obtain ⟨v, xs, hv, hown, hrv, hblk⟩ : ∃ v xs, a.eval x = v ∧ w.ownsRow 0 e sz v rows.length xs ∧ RowsV w D sz rows xs ∧ (∀ g, v.ownBlock = some g → ∃ i, k = some i ∧ ρ i = some (some g)) := by
      rcases hx with ⟨hx, rfl, rfl⟩ | ⟨i, hx, hb, rfl⟩
      · have h1 := evO_rep hs x
        rw [hx] at h1
        simp only [SRep] at h1
        exact ⟨_, [], h1, World.ownsRow_nil _ _ _ _, rfl, fun g hg => by simp [Value.ownBlock] at hg⟩
      · have h1 := evO_rep hs x
        rw [hx] at h1
        simp only [SRep] at h1
        obtain ⟨r, hr, hO, _⟩ := h1
        obtain ⟨r', h5, h6⟩ := hs.blk i _ hb
        rw [hr] at h5
        injection h5 with h5
        subst h5
        rcases hO _ _ _ hb with ⟨rfl, hv⟩ | ⟨g, cap, arr, rfl, hv, hh, ha, hsz', hcm, hrl⟩
        · simp only at h6
          subst h6
          exact ⟨_, [], hv, World.ownsRow_nil _ _ _ _, rfl, fun g hg => by simp [Value.ownBlock] at hg⟩
        · obtain ⟨arr', cap', k1, k2, k3, k4, k5, k6⟩ := h6
          rw [hh] at k1
          injection k1 with k1
          injection k1 with k1
          subst k1
          have ecap : cap = cap' := by rw [ha] at k2; exact Nat.eq_of_mul_eq_mul_right hsz' k2
          subst ecap
          obtain ⟨vs, j1, j2⟩ := RowsV.of_rows k6
          have jl := j1.length
          have evs : arr.toList.take (rows.length * sz) = vs := by
            apply List.ext_getElem?
            intro q
            rw [List.getElem?_take]
            by_cases hq : q < rows.length * sz
            · rw [if_pos hq]
              have hq' : q < vs.length := by omega
              have := j2 q _ (List.getElem?_eq_getElem hq')
              rw [addr_add rfl, cell_at hh] at this
              rw [List.getElem?_eq_getElem hq']
              simpa using this
            · rw [if_neg hq, List.getElem?_eq_none (by omega)]
          refine ⟨_, vs, hv, ⟨jl, .inr ⟨g, cap, arr, rfl, Nat.zero_le _, hh, k4, k5, ha, evs⟩⟩, j1, fun g' hg' => ?_⟩
          simp only [Value.ownBlock, Option.some.injEq] at hg'
          subst hg'
          exact ⟨i, rfl, hr⟩
    -- what is appended
    obtain ⟨A, cap, hy1, hy2, hy3⟩ := rows_rep hs hy
    obtain ⟨news, hn1, hn2⟩ : ∃ news, RowsV w D sz new news ∧ (new ≠ [] → ∃ ad, A = some ad ∧ ∀ j u, news[j]? = some u → w.cell? (ad.add j) = some u) := by
      rcases hy3 with rfl | ⟨ad, sz', rfl, hr⟩
      · exact ⟨[], rfl, fun h => absurd rfl h⟩
      · by_cases hne : new = []
        · subst hne; exact ⟨[], rfl, fun h => absurd rfl h⟩
        · have e' : sz' = sz := by
            obtain ⟨r, rs, rfl⟩ := List.exists_cons_of_ne_nil hne
            simp only [RepRows] at hr
            rw [← hr.1]; exact hl r (by simp)
          subst e'
          obtain ⟨vs, j1, j2⟩ := RowsV.of_rows hr
          exact ⟨vs, j1, fun _ => ⟨ad, rfl, fun j u hu => by simpa using j2 j u hu⟩⟩
    have hnl := hn1.length
    -- the run
    obtain ⟨v', w', hrun, hown', hgrown, hat⟩ : ∃ v' w', (Builtin.append_ #[t, t] o.type #[v, a.eval y]).run P w = .ok v' w' ∧ w'.ownsRow 0 e sz v' (rows.length + new.length) (xs ++ news) ∧ w.grownBy w' v.ownBlock ∧ (v'.ownBlock = v.ownBlock ∨ v'.ownBlock = some w.heap.size) := by
      rw [hy1]
      by_cases hne : new = []
      · subst hne
        simp only [RowsV] at hn1
        subst hn1
        refine ⟨v, w, ?_, by simpa using hown, ⟨rfl, rfl, rfl, Nat.le_refl _, fun _ _ _ => rfl⟩, .inl rfl⟩
        rcases hown.2 with ⟨rfl, hn⟩ | ⟨g, cap', cur, rfl, _, _, hnc, _⟩
        · cases A <;> simp [Builtin.append_, run_underlying hts', sizeOf, typeInfo, hi, Builtin.lenOf, Builtin.firstCells, loadCells, loadCellsFrom]
        · cases A <;> simp [Builtin.append_, run_underlying hts', sizeOf, typeInfo, hi, Builtin.lenOf, Builtin.firstCells, loadCells, loadCellsFrom, hnc, storeCells]
      · obtain ⟨ad, rfl, hcell⟩ := hn2 hne
        obtain ⟨v', w', r1, r2, r3, _, r5⟩ := run_append_own_at (P := P) w 0 t o.type e it z sz it.bytes hts' hi hz hisz rfl hzs ht.pos v rows.length xs hown ad new.length cap news hnl hcell hn1.one h63 (by rw [← hby]; exact hlim) (Nat.zero_le _)
        exact ⟨v', w', r1, r2, r3, r5⟩
    have hne : ∀ i r, ρ i = some r → m ≠ i := fun i r hr e => hm (e ▸ hs.given i r hr)
    -- the new state
    let σ' : Nat → Option Blk := updB σ ((m, some (.row e sz (rows ++ new))) :: killS k)
    have hσm : σ' m = some (.row e sz (rows ++ new)) := by simp [σ', updB]
    have hσo : ∀ j b, j ≠ m → σ' j = some b → σ j = some b ∧ k ≠ some j := by
      intro j b hj hb
      have hmj : m ≠ j := fun e => hj e.symm
      simp only [σ', updB, if_neg hmj] at hb
      cases k with
      | none => exact ⟨by simpa [updB, killS] using hb, by simp⟩
      | some i =>
        by_cases hij : i = j
        · subst hij
          simp [updB, killS] at hb
        · exact ⟨by simpa [updB, killS, hij] using hb, by simpa using hij⟩
    have hrow : ∀ g i, v.ownBlock = some g → k = some i → ∃ b, σ i = some b ∧ b.live = true ∧ ρ i = some (some g) := by
      intro g i hg hk
      obtain ⟨i', hk', hr'⟩ := hblk g hg
      rw [hk] at hk'
      injection hk' with hk'
      subst hk'
      rcases hx with ⟨_, _, h⟩ | ⟨i', _, hb, h⟩
      · rw [hk] at h; cases h
      · rw [hk] at h; injection h with h; subst h; exact ⟨_, hb, rfl, hr'⟩
    have hDg : ∀ g, v.ownBlock = some g → ¬ D g ∧ Mine w0 X g ∧ g < w.heap.size := by
      intro g hg
      obtain ⟨i, hk, _⟩ := hblk g hg
      obtain ⟨b, h1, h2, h3⟩ := hrow g i hg hk
      exact hs.apart i b g h1 h2 h3
    have c : Chg w w' D ρ (setR ρ m v'.ownBlock) σ σ' (fun q => v.ownBlock = some q) (fun j => j = m) := by
      refine ⟨fun i r hr => by simp [setR, hne i r hr, hr], hgrown.size, fun q hq hT => hgrown.block q hq (fun e => hT e.symm), fun q hq hT => (hDg q hT).1 hq, fun j b hn hb => ?_, fun j r u hn hr _ => absurd hn.symm (hne j r hr), fun j g q off u hn hr _ => absurd hn.symm (hne j _ hr)⟩
      obtain ⟨h1, h2⟩ := hσo j b hn hb
      refine ⟨h1, fun g hlv hr hT => ?_⟩
      obtain ⟨i, hk, _⟩ := hblk g hT
      obtain ⟨b', k1, k2, k3⟩ := hrow g i hT hk
      exact h2 (by rw [hk, hs.inj i j b' b g k1 h1 k2 hlv k3 hr])
    have hsame := c.same hs
    have hv'lt : ∀ g, v'.ownBlock = some g → ¬ D g ∧ Mine w0 X g ∧ g < w'.heap.size := by
      intro g hg
      rcases hat with h | h
      · obtain ⟨k1, k2, k3⟩ := hDg g (h ▸ hg)
        exact ⟨k1, k2, Nat.lt_of_lt_of_le k3 hgrown.size⟩
      · rw [hg] at h
        injection h with h
        subst h
        exact ⟨fun hd => absurd (hs.dlt _ hd) (Nat.lt_irrefl _), .inl hs.kept.size, (hown'.lt _ hg).2⟩
    have hrv' : RowsV w' D sz (rows ++ new) (xs ++ news) := (hrv.append hn1).mono hsame (fun _ h => h)
    have hlens : ∀ r ∈ rows ++ new, r.length = sz := (hrv.append hn1).lens
    have hst : StD w0 X D0 (fun i => L i ∨ i ∈ [m]) D (setR ρ m v'.ownBlock) E σ' a w' := by
      refine hs.change c (fun i r hr => ?_) ⟨hgrown.os.trans hs.kept.os, hgrown.tape.trans hs.kept.tape, hgrown.output.trans hs.kept.output, Nat.le_trans hs.kept.size hgrown.size, fun q hq hX => ?_⟩ (fun j b hn hb => ?_) (fun j b g hn hb hlv hr => ?_) (fun j hn r hr _ => ?_) (fun i j b b' g hn h1 h2 l1 l2 r1 r2 => ?_)
      · by_cases e : m = i
        · exact .inr (by simp [e])
        · simp only [setR, if_neg e] at hr
          exact .inl (hs.given i r hr)
      · rw [hgrown.block q (Nat.lt_of_lt_of_le hq hs.kept.size) (fun e => ?_)]
        · exact hs.kept.block q hq hX
        · rcases (hDg q e.symm).2.1 with h | h
          · omega
          · exact hX h
      · subst hn
        rw [hσm] at hb
        injection hb with hb
        subst hb
        refine ⟨v'.ownBlock, setR_self _ _ _, ?_⟩
        rcases hown'.2 with ⟨rfl, hz0⟩ | ⟨g, cap', cur, rfl, _, hh, hnc, hcm, hcs, htake⟩
        · simp only [Value.ownBlock]
          have : (rows ++ new).length = 0 := by rw [List.length_append]; omega
          exact List.eq_nil_of_length_eq_zero this
        · simp only [Value.ownBlock]
          exact RowIn.of_values hh hcs ht.pos (by simpa using hnc) hcm hrv' (by simpa using htake)
      · subst hn
        simp only [setR_self, Option.some.injEq] at hr
        exact hv'lt g hr
      · have hmj : m ≠ j := fun e => hn e.symm
        simpa [setR, hmj] using hr
      · subst hn
        by_cases e : i = j
        · exact e
        · simp only [setR_self, Option.some.injEq] at r1
          simp only [setR, if_neg e] at r2
          obtain ⟨h3, h4⟩ := hσo j b' (fun e' => e e'.symm) h2
          rcases hat with h | h
          · obtain ⟨i', hk, _⟩ := hblk g (h ▸ r1)
            obtain ⟨b3, k1, k2, k3⟩ := hrow g i' (h ▸ r1) hk
            exact absurd (by rw [hk, hs.inj i' j b3 b' g k1 h3 k2 l2 k3 r2]) h4
          · rw [r1] at h
            injection h with h
            subst h
            exact absurd (hs.apart j b' _ h3 l2 r2).2.2 (Nat.lt_irrefl _)
    refine ⟨v', w', D, setR ρ m v'.ownBlock, ?_, hst, ?_⟩
    · simp only [execOp, ho, hts, resolve, invoke, builtin, Sem.run_bind, Sem.run_pure, Result.andThen_ok, List.map_toArray, List.map_cons, List.map_nil, hv, hrun]
    · simp only [SRep]
      refine ⟨_, setR_self _ _ _, fun T' sz' rows' hb' => ?_, fun rows' hb' => ?_⟩
      · have hb'' : σ' m = some (.row T' sz' rows') := hb'
        rw [hσm] at hb''
        injection hb'' with hb''
        injection hb'' with e1 e2 e3
        subst e1 e2 e3
        rcases hown'.2 with ⟨rfl, hz0⟩ | ⟨g, cap', cur, rfl, _, hh, hnc, hcm, hcs, htake⟩
        · exact .inl ⟨rfl, rfl⟩
        · exact .inr ⟨g, cap', cur, rfl, by rw [List.length_append], hh, hcs, ht.pos, hcm, hlens⟩
      · have hb'' : σ' m = some (.ice rows') := hb'
        rw [hσm] at hb''
        simp at hb''
end
end Go.Proofs.Ytikfkipalifohaa.A
