/- The layer, part 14: regions and code, step by step. -/
import Derived.Test.YtikfkipalifohaaA13
import Derived.LoopN
namespace Go.Proofs.Ytikfkipalifohaa.A
open Go Go.RowKit

def setE : Env → Option Nat → SV → Env
  | E, none, _ => E
  | [], some d, x => [(d, x)]
  | (t, y) :: E, some d, x => if t = d then (t, x) :: E else (t, y) :: setE E (some d) x
def putS : Sto → Nat → Option Blk → Sto
  | [], i, b => [(i, b)]
  | (j, c) :: S, i, b => if j = i then (j, b) :: S else (j, c) :: putS S i b
def setW (S : Sto) : Sto → Sto
  | [] => S
  | (i, b) :: wr => putS (setW S wr) i b
def bump (n : Nat) : List Nat → Nat
  | [] => n
  | q :: l => bump (max n (q + 1)) l
theorem lk_setE : ∀ (E : Env) (d : Option Nat) (x : SV), lk (setE E d x) = upd (lk E) d x
  | E, none, x => by cases E <;> (funext t; simp [setE, upd])
  | [], some d, x => by funext t; simp [setE, upd, lk]
  | (t, y) :: E, some d, x => by
    funext u
    simp only [setE]
    split
    · rename_i h
      subst h
      by_cases hu : t = u
      · simp [lk, upd, hu]
      · simp [lk, upd, hu]
    · rename_i h
      have ih := congrFun (lk_setE E (some d) x) u
      by_cases hu : t = u
      · subst hu
        simp [lk, upd, show ¬ d = t from fun e => h e.symm]
      · simp only [lk, if_neg hu, ih, upd]
theorem lkB_putS : ∀ (S : Sto) (i : Nat) (b : Option Blk), lkB (putS S i b) = setB (lkB S) i b
  | [], i, b => by funext t; simp [putS, setB, lkB]
  | (j, c) :: S, i, b => by
    funext u
    simp only [putS]
    split
    · rename_i h
      subst h
      by_cases hu : j = u
      · simp [lkB, setB, hu]
      · simp [lkB, setB, hu]
    · rename_i h
      have ih := congrFun (lkB_putS S i b) u
      by_cases hu : j = u
      · subst hu
        simp [lkB, setB, show ¬ i = j from fun e => h e.symm]
      · simp only [lkB, if_neg hu, ih, setB]
theorem lkB_setW : ∀ (S wr : Sto), lkB (setW S wr) = updB (lkB S) wr
  | S, [] => rfl
  | S, (i, b) :: wr => by
    rw [setW, lkB_putS, lkB_setW S wr]
    funext t
    simp [setB, updB]
theorem bump_le : ∀ (l : List Nat) (n : Nat), n ≤ bump n l
  | [], n => Nat.le_refl _
  | q :: l, n => Nat.le_trans (Nat.le_max_left _ _) (bump_le l _)
theorem bump_lt : ∀ (l : List Nat) (n : Nat), ∀ q ∈ l, q < bump n l
  | [], n, q, h => by cases h
  | q0 :: l, n, q, h => by
    rcases List.mem_cons.1 h with rfl | h
    · exact Nat.lt_of_lt_of_le (Nat.lt_of_lt_of_le (Nat.lt_succ_self _) (Nat.le_max_right _ _)) (bump_le l _)
    · exact bump_lt l _ q h

/-! ### A region -/
structure RI (P : Program) (ops : Array Oper) (E0 : Nat → SV) (σ0 : Nat → Option Blk) (nx0 : Nat) (E : Env) (σ : Sto) (nx : Nat) (es : List Ent) : Prop where
  le : es.length ≤ ops.size
  op : ∀ (i : Nat) (o : Oper) (e : Ent), ops[i]? = some o → es[i]? = some e → OpL P ops o (apE ops es (fun _ => true) E0 i) (apB es (fun _ => true) σ0 i) e
  eE : lk E = apE ops es (fun _ => true) E0 es.length
  eB : lkB σ = apB es (fun _ => true) σ0 es.length
  ms : ∀ (i : Nat) (e : Ent), es[i]? = some e → ∀ q ∈ e.m, nx0 ≤ q ∧ q < nx
  dis : ∀ (i j : Nat) (e e' : Ent), es[i]? = some e → es[j]? = some e' → i ≠ j → ∀ q ∈ e.m, q ∉ e'.m
  nn : nx0 ≤ nx
/-- What is still to be gone through: os. sk: what has been written and read, the last first. -/
def RG (P : Program) (ops : Array Oper) (E0 : Nat → SV) (σ0 : Nat → Option Blk) (nx0 : Nat) (K : Env → Sto → Nat → List Skel → Prop) (os : List Oper) (E : Env) (σ : Sto) (nx : Nat) (sk : List Skel) : Prop :=
  ∀ es, es.map Ent.skel = sk.reverse → ops.toList.drop es.length = os → RI P ops E0 σ0 nx0 E σ nx es →
    ∃ E' σ' nx' es', es'.length = ops.size ∧ RI P ops E0 σ0 nx0 E' σ' nx' es' ∧ K E' σ' nx' ((es'.map Ent.skel).reverse)

section
variable {P : Program} {ops : Array Oper} {E0 : Nat → SV} {σ0 : Nat → Option Blk} {nx0 : Nat} {K : Env → Sto → Nat → List Skel → Prop} {os : List Oper} {E : Env} {σ : Sto} {nx : Nat} {sk : List Skel} {o : Oper}
theorem apE_append (es : List Ent) (e : Ent) (ls : Nat → Bool) : ∀ k, k ≤ es.length → apE ops (es ++ [e]) ls E0 k = apE ops es ls E0 k
  | 0, _ => rfl
  | k + 1, h => by
    have ih := apE_append es e ls k (by omega)
    simp only [apE, List.getElem?_append_left (show k < es.length by omega), ih]
theorem apB_append (es : List Ent) (e : Ent) (ls : Nat → Bool) : ∀ k, k ≤ es.length → apB (es ++ [e]) ls σ0 k = apB es ls σ0 k
  | 0, _ => rfl
  | k + 1, h => by
    have ih := apB_append es e ls k (by omega)
    simp only [apB, List.getElem?_append_left (show k < es.length by omega), ih]
theorem RI.add {es : List Ent} {e : Ent} (h : RI P ops E0 σ0 nx0 E σ nx es) (ho : ops[es.length]? = some o) (hop : OpL P ops o (lk E) (lkB σ) e) (hm : ∀ q ∈ e.m, nx ≤ q) :
    RI P ops E0 σ0 nx0 (setE E o.dst e.x) (setW σ e.wr) (bump nx e.m) (es ++ [e]) := by
  have hlast : (es ++ [e])[es.length]? = some e := by simp
  refine ⟨by have := (Array.getElem?_eq_some_iff.1 ho).1; simp; omega, fun i o' e' ho' he' => ?_, ?_, ?_, fun i e' he' q hq => ?_, fun i j e1 e2 h1 h2 hij q hq hq' => ?_, Nat.le_trans h.nn (bump_le _ _)⟩
  · by_cases hi : i < es.length
    · rw [apE_append _ _ _ _ (by omega), apB_append _ _ _ _ (by omega)]
      rw [List.getElem?_append_left hi] at he'
      exact h.op i o' e' ho' he'
    · have hlt := (List.getElem?_eq_some_iff.1 he').1
      simp at hlt
      have : i = es.length := by omega
      subst this
      rw [apE_append _ _ _ _ (Nat.le_refl _), apB_append _ _ _ _ (Nat.le_refl _), ← h.eE, ← h.eB]
      rw [ho] at ho'
      rw [hlast] at he'
      injection ho' with ho'
      injection he' with he'
      subst ho' he'
      exact hop
  · rw [lk_setE, h.eE]
    simp only [List.length_append, List.length_singleton, apE, ho, hlast, if_true]
    rw [apE_append _ _ _ _ (Nat.le_refl _)]
  · rw [lkB_setW, h.eB]
    simp only [List.length_append, List.length_singleton, apB, hlast, if_true]
    rw [apB_append _ _ _ _ (Nat.le_refl _)]
  · by_cases hi : i < es.length
    · rw [List.getElem?_append_left hi] at he'
      obtain ⟨h1, h2⟩ := h.ms i e' he' q hq
      exact ⟨h1, Nat.lt_of_lt_of_le h2 (bump_le _ _)⟩
    · have hlt := (List.getElem?_eq_some_iff.1 he').1
      simp at hlt
      have : i = es.length := by omega
      subst this
      rw [hlast] at he'
      injection he' with he'
      subst he'
      exact ⟨Nat.le_trans h.nn (hm q hq), bump_lt _ _ q hq⟩
  · have key : ∀ (i j : Nat) (e1 e2 : Ent), (es ++ [e])[i]? = some e1 → (es ++ [e])[j]? = some e2 → i < j → ∀ q ∈ e1.m, q ∉ e2.m := by
      intro i j e1 e2 h1 h2 hij q hq hq'
      have hj := (List.getElem?_eq_some_iff.1 h2).1
      simp at hj
      rw [List.getElem?_append_left (show i < es.length by omega)] at h1
      by_cases hjl : j < es.length
      · rw [List.getElem?_append_left hjl] at h2
        exact h.dis i j e1 e2 h1 h2 (by omega) q hq hq'
      · have : j = es.length := by omega
        subst this
        rw [hlast] at h2
        injection h2 with h2
        subst h2
        have := (h.ms i e1 h1 q hq).2
        have := hm q hq'
        omega
    rcases Nat.lt_or_gt_of_ne hij with hlt | hgt
    · exact key i j e1 e2 h1 h2 hlt q hq hq'
    · exact key j i e2 e1 h2 h1 hgt q hq' hq
theorem drop_cons {es : List Ent} (h : ops.toList.drop es.length = o :: os) : ops[es.length]? = some o ∧ ops.toList.drop (es.length + 1) = os := by
  have h1 := congrArg (·[0]?) h
  have h2 := congrArg (·.drop 1) h
  simp at h1 h2
  exact ⟨h1, h2⟩
theorem rg_nil (h : K E σ nx sk) : RG P ops E0 σ0 nx0 K [] E σ nx sk := by
  intro es hsk hd hi
  have hlen : ops.size ≤ es.length := by simpa [List.drop_eq_nil_iff] using hd
  exact ⟨E, σ, nx, es, Nat.le_antisymm hi.le hlen, hi, by rw [hsk, List.reverse_reverse]; exact h⟩
theorem rg_step {e : Ent} (hop : OpL P ops o (lk E) (lkB σ) e) (hm : ∀ q ∈ e.m, nx ≤ q) (h : RG P ops E0 σ0 nx0 K os (setE E o.dst e.x) (setW σ e.wr) (bump nx e.m) (e.skel :: sk)) :
    RG P ops E0 σ0 nx0 K (o :: os) E σ nx sk := by
  intro es hsk hd hi
  obtain ⟨h1, h2⟩ := drop_cons hd
  exact h (es ++ [e]) (by simp [hsk]) (by simpa using h2) (hi.add h1 hop hm)

def OpR.ent (r : OpR) : Ent := ⟨r.x, r.wr, r.m, r.rd⟩
theorem opE_m (P : Program) (nx : Nat) (S : Nat → Option Blk) (V : Operand → SV) (op : Op) : ∀ q ∈ (opE P nx S V op).m, nx ≤ q := by
  have key : ∀ r : OpR, (r.m = [] ∨ r.m = [nx]) → ∀ q ∈ r.m, nx ≤ q := by
    rintro r (h | h) q hq <;> rw [h] at hq <;> simp at hq
    omega
  refine key _ ?_
  have hS : ∀ (e : TypeId) (lo hi mx : Option Operand) (rows : List (List PV)) (wr : Sto) (rd : List Nat), (sliceOf P e V lo hi mx rows wr rd).m = [] := by
    intro e lo hi mx rows wr rd
    unfold sliceOf
    split <;> rfl
  have hI : ∀ (op : BinOp) (k k' : IntKind) (m n : Int), (intE op k k' m n).m = [] := by
    intro op k k' m n
    unfold intE
    split <;> try rfl
    split <;> rfl
  cases op <;> simp only [opE] <;> try (first | exact .inl rfl | exact .inr rfl)
  case pick => unfold pickE; split <;> exact .inl rfl
  case unOp => unfold unE; split <;> exact .inl rfl
  case convert => unfold convE; split <;> exact .inl rfl
  case binOp => unfold binE; split; exact .inl (hI _ _ _ _ _); unfold cmpE; split <;> exact .inl rfl
  case load =>
    unfold loadE
    split <;> (try exact .inl rfl) <;> split <;> (try exact .inl rfl) <;> (try split) <;> (try exact .inl rfl) <;> split <;> exact .inl rfl
  case store => unfold storeE; split <;> (try exact .inl rfl) <;> split <;> (try exact .inl rfl) <;> split <;> exact .inl rfl
  case fieldAddr => unfold faddrE; split <;> (try exact .inl rfl) <;> split <;> (try exact .inl rfl) <;> split <;> (try exact .inl rfl) <;> split <;> exact .inl rfl
  case field => unfold fieldE; split <;> (try exact .inl rfl) <;> split <;> exact .inl rfl
  case indexAddr => unfold indexE; split <;> (try exact .inl rfl) <;> split <;> (try exact .inl rfl) <;> split <;> exact .inl rfl
  case index => unfold istrE; split <;> (try exact .inl rfl) <;> split <;> exact .inl rfl
  case extract => unfold extrE; split <;> exact .inl rfl
  case nilCheck => unfold ncE; split <;> exact .inl rfl
  case build => unfold buildE; split <;> (try exact .inl rfl) <;> split <;> exact .inl rfl
  case buildSlice => unfold bslE; split <;> (try exact .inl rfl) <;> split <;> (try exact .inl rfl) <;> split <;> (first | exact .inl rfl | exact .inr rfl)
  case makeSlice => unfold makeE; split <;> (try exact .inl rfl) <;> split <;> (try exact .inl rfl) <;> split <;> (try first | exact .inl rfl | exact .inr rfl) <;> split <;> (first | exact .inl rfl | exact .inr rfl)
  case slice => unfold sliceE; split <;> (try exact .inl rfl) <;> split <;> (try exact .inl rfl) <;> (try exact .inl (hS _ _ _ _ _ _ _)) <;> split <;> (try exact .inl rfl) <;> exact .inl (hS _ _ _ _ _ _ _)
  case call c =>
    unfold callE
    split <;> try exact .inl rfl
    unfold biE
    split <;> try exact .inl rfl
    · unfold lenE; split <;> (try exact .inl rfl) <;> split <;> exact .inl rfl
    · split <;> try exact .inl rfl
      unfold appE
      split <;> (try exact .inl rfl) <;> split <;> (try exact .inl rfl) <;> split <;> (try first | exact .inl rfl | exact .inr rfl) <;> split <;> (first | exact .inl rfl | exact .inr rfl)
    · unfold mmE; split <;> exact .inl rfl
    · unfold mmE; split <;> exact .inl rfl
theorem rg_op {r : OpR} (hg : o.guard = none) (hr : opE P nx (lkB σ) (evO (lk E)) o.op = r) (hok : r.ok = true) (h : RG P ops E0 σ0 nx0 K os (setE E o.dst r.x) (setW σ r.wr) (bump nx r.m) ((r.wr.map (·.1), r.rd) :: sk)) :
    RG P ops E0 σ0 nx0 K (o :: os) E σ nx sk := by
  subst hr
  refine rg_step (e := OpR.ent (opE P nx (lkB σ) (evO (lk E)) o.op)) (fun L' E' σ' hE hB hm => rsem_plain hg (opE_good hm hE hB hok)) (opE_m _ _ _ _ _) h
/-- An operation that is carried out just if slot t holds 'want'. -/
theorem rg_opg {r : OpR} {j t : Nat} {want : Bool} {G : Prop} [Decidable G] (hg : o.guard = some (j, want)) (hj : (ops[j]?).bind (·.dst) = some t) (hb : guardOf (lk E t) want G) (hr : G → opE P nx (lkB σ) (evO (lk E)) o.op = r) (hok : G → r.ok = true) (hw : r.wr = []) (hm : r.m = [])
    (h : RG P ops E0 σ0 nx0 K os (setE E o.dst (if G then r.x else .tup [])) σ nx (([], r.rd) :: sk)) : RG P ops E0 σ0 nx0 K (o :: os) E σ nx sk := by
  refine rg_step (e := ⟨if G then r.x else .tup [], [], [], r.rd⟩) (fun L' E' σ' hE hB _ => ?_) (by simp) h
  have hgt : t ∈ o.looksAt ops := by
    unfold Oper.looksAt
    rw [hg]
    simp [hj]
  refine rsem_guard hg hj (by rw [hE t hgt]; exact hb) (fun hbw => ?_) (fun hbw => ⟨by simp [hbw], rfl, rfl⟩)
  have e := hr hbw
  have hg' := opE_good (P := P) (o := o) (ops := ops) (nx := nx) (σ := lkB σ) (σ' := σ') (L := L') (E := lk E) (E' := E') (by rw [e, hm]; simp) hE (by rw [e]; exact hB) (by rw [e]; exact hok hbw)
  rw [e] at hg'
  unfold Good at hg'
  rw [hw, hm] at hg'
  simpa [hbw] using hg'
theorem callL {f : FuncId} {fx : Operand} {args : Array Operand} {ts : Array TypeId} {bs : List Bool} {xs : List SV} {r : SV} {R : Sto} (ho : o.op = .call { callee := .value fx, args := args, argTypes := ts }) (hf : evO (lk E) fx = .d (.fn f)) (hxs : args.toList.map (evO (lk E)) = xs)
    (hok : (callR nx (lkB σ) bs xs r R).ok = true) (hF : FnOK P f (argsOf (lkB σ) bs xs) r R) {L' : Nat → Prop} {E' : Nat → SV} {σ' : Nat → Option Blk} (hE : ∀ t ∈ o.looksAt ops, E' t = lk E t) (hB : ∀ i ∈ (callR nx (lkB σ) bs xs r R).rd, σ' i = lkB σ i) (hm : ∀ q ∈ (callR nx (lkB σ) bs xs r R).m, ¬ L' q) :
    OpSem P o L' E' σ' (callR nx (lkB σ) bs xs r R).x (callR nx (lkB σ) bs xs r R).wr (callR nx (lkB σ) bs xs r R).m := by
  have hev : ∀ x ∈ o.op.operands, evO E' x = evO (lk E) x := by
    intro x hx
    cases x with
    | tmp t => exact hE t (List.mem_append_left _ (List.mem_filterMap.2 ⟨.tmp t, by simpa using hx, rfl⟩))
    | _ => rfl
  rw [ho] at hev
  have h1 : evO E' fx = .d (.fn f) := by rw [hev fx (by simp [Op.operands, Call.operands])]; exact hf
  have h2 : args.toList.map (evO E') = xs := by
    rw [← hxs]
    exact List.map_congr_left fun x hx => hev x (by simp only [Op.operands, Call.operands, Array.mem_append]; exact .inr (by simpa using hx))
  exact callR_good ho h1 h2 hm hB hok hF
theorem callR_m (nx : Nat) (S : Nat → Option Blk) (bs : List Bool) (xs : List SV) (r : SV) (R : Sto) : ∀ q ∈ (callR nx S bs xs r R).m, nx ≤ q := by
  intro q hq
  simp only [callR, List.mem_map] at hq
  obtain ⟨i, _, rfl⟩ := hq
  omega
theorem rg_call {f : FuncId} {fx : Operand} {args : Array Operand} {ts : Array TypeId} {bs : List Bool} {xs ys : List SV} {r : SV} {R : Sto} {c : OpR} (hg : o.guard = none) (ho : o.op = .call { callee := .value fx, args := args, argTypes := ts }) (hf : evO (lk E) fx = .d (.fn f)) (hxs : args.toList.map (evO (lk E)) = xs)
    (hys : argsOf (lkB σ) bs xs = ys) (hF : FnOK P f ys r R) (hc : callR nx (lkB σ) bs xs r R = c) (hok : c.ok = true) (h : RG P ops E0 σ0 nx0 K os (setE E o.dst c.x) (setW σ c.wr) (bump nx c.m) ((c.wr.map (·.1), c.rd) :: sk)) :
    RG P ops E0 σ0 nx0 K (o :: os) E σ nx sk := by
  subst hys
  subst hc
  exact rg_step (e := OpR.ent (callR nx (lkB σ) bs xs r R)) (fun L' E' σ' hE hB hm => rsem_plain hg (callL ho hf hxs hok hF hE hB hm)) (callR_m nx (lkB σ) bs xs r R) h
theorem rg_callg {f : FuncId} {fx : Operand} {args : Array Operand} {ts : Array TypeId} {bs : List Bool} {xs ys : List SV} {r : SV} {R : Sto} {c : OpR} {j t : Nat} {want : Bool} {G : Prop} [Decidable G] (hg : o.guard = some (j, want)) (hj : (ops[j]?).bind (·.dst) = some t) (hb : guardOf (lk E t) want G)
    (ho : o.op = .call { callee := .value fx, args := args, argTypes := ts }) (hf : G → evO (lk E) fx = .d (.fn f)) (hxs : G → args.toList.map (evO (lk E)) = xs)
    (hys : G → argsOf (lkB σ) bs xs = ys) (hF : G → FnOK P f ys r R) (hc : callR nx (lkB σ) bs xs r R = c) (hok : G → c.ok = true) (hw : c.wr = []) (hm : c.m = [])
    (h : RG P ops E0 σ0 nx0 K os (setE E o.dst (if G then c.x else .tup [])) σ nx (([], c.rd) :: sk)) : RG P ops E0 σ0 nx0 K (o :: os) E σ nx sk := by
  subst hc
  refine rg_step (e := ⟨if G then (callR nx (lkB σ) bs xs r R).x else .tup [], [], [], (callR nx (lkB σ) bs xs r R).rd⟩) (fun L' E' σ' hE hB _ => ?_) (by simp) h
  have hgt : t ∈ o.looksAt ops := by
    unfold Oper.looksAt
    rw [hg]
    simp [hj]
  refine rsem_guard hg hj (by rw [hE t hgt]; exact hb) (fun hbw => ?_) (fun hbw => ⟨by simp [hbw], rfl, rfl⟩)
  have hg' := callL (P := P) (ops := ops) (o := o) (σ' := σ') (L' := L') (E' := E') ho (hf hbw) (hxs hbw) (hok hbw) (by rw [hys hbw]; exact hF hbw) hE hB (by rw [hm]; simp)
  rw [hw, hm] at hg'
  simpa [hbw] using hg'
end

/-! ### Code -/
def codeOK (n : Nat) : Code → Bool
  | .region _ ops draw => ops.toList.all (fun o => match o.dst with | some d => decide (d < n) | none => true) && (!draw || drawB ops)
  | .seq a b => codeOK n a && codeOK n b
  | .cond _ a b => codeOK n a && codeOK n b
  | .block _ c => codeOK n c
  | .loop c => codeOK n c
  | .skip => true
  | .ret => true
  | .exit _ => true
  | .label _ => true
  | _ => false
/-- From this state the code comes to an end that meets Q. -/
structure PW (P : Program) (n : Nat) (fx : List Nat) (c : Code) (Q : Exit → Env → Sto → Nat → Prop) (E : Env) (σ : Sto) (nx : Nat) : Prop where
  run : P.follows .mixedOrders = true → codeOK n c = true → ∀ w0 X D0 a w, (∀ i, D0.f i ≠ none → i ∈ fx) → a.tmps.size = n → St w0 X D0 (fun i => i < nx) (lk E) (lkB σ) a w →
    c.wp P (fun e a' w' => ∃ E' σ' nx', a'.tmps.size = n ∧ St w0 X D0 (fun i => i < nx') (lk E') (lkB σ') a' w' ∧ Q e E' σ' nx') a w

section
variable {P : Program} {n : Nat} {fx : List Nat} {Q : Exit → Env → Sto → Nat → Prop} {E : Env} {σ : Sto} {nx : Nat}
theorem St.more {w0 w : World} {X : Nat → Prop} {D0 : Base} {L L' : Nat → Prop} {E : Nat → SV} {σ : Nat → Option Blk} {a : Act} (h : St w0 X D0 L E σ a w) (hl : ∀ i, L i → L' i) : St w0 X D0 L' E σ a w := by
  obtain ⟨D, ρ, h⟩ := h
  exact ⟨D, ρ, h.more hl⟩
theorem St.drew {w0 w : World} {X : Nat → Prop} {D0 : Base} {L : Nat → Prop} {E : Nat → SV} {σ : Nat → Option Blk} {a : Act} (h : St w0 X D0 L E σ a w) : St w0 X D0 L E σ a { w with drawn := w.drawn + 1 } := by
  obtain ⟨D, ρ, h⟩ := h
  have hm : Mv w { w with drawn := w.drawn + 1 } D D ρ ρ σ σ := ⟨fun _ _ => rfl, fun _ h => h, fun _ _ h => h, fun i r v hr ho => ⟨ho.1, fun rows hb => Rep.mono (w := w) (w' := { w with drawn := w.drawn + 1 }) (fun _ _ => rfl) (fun _ h => h) _ _ (ho.2 rows hb)⟩, fun _ _ _ _ _ _ h => h⟩
  refine ⟨D, ρ, ⟨fun t => SRep.mv hm _ _ (h.slots t), h.ndef, ⟨h.kept.os, h.kept.tape, h.kept.output, h.kept.size, h.kept.block⟩, h.dlt, h.dold, h.dnew, h.fix, h.given, fun i b hb => ?_, h.apart, h.inj⟩⟩
  have := h.blk i b hb
  cases b with
  | box cs => obtain ⟨g, arr, T, h1, h2, h3, h4⟩ := this; exact ⟨g, arr, T, h1, h2, SReps.mv hm _ _ h3, h4⟩
  | row T sz rows =>
    obtain ⟨r, h1, h2⟩ := this
    refine ⟨r, h1, ?_⟩
    cases r with
    | none => exact h2
    | some g =>
      exact RowIn.keep (w := w) (fun _ _ => rfl) rfl h2
  | ice rows => exact this
theorem apL_nil (L : Nat → Prop) (k : Nat) : apL [] (fun _ => true) L k = L := by
  funext q
  simp [apL]
/-- A region. -/
theorem pw_region {id : Nat} {l : List Oper} {draw : Bool} (h : RG P l.toArray (lk E) (lkB σ) nx (fun E' σ' nx' sk => (draw = true → drawKeys l.toArray sk.reverse = true) ∧ Q .normal E' σ' nx') l E σ nx []) : PW P n fx (.region id l.toArray draw) Q E σ nx := by
  refine ⟨?_⟩
  intro hmix hck w0 X D0 a w hfx ha hs
  simp only [codeOK, Bool.and_eq_true, Bool.or_eq_true, Bool.not_eq_true'] at hck
  obtain ⟨E', σ', nx', es, hlen, hi, hkey, hQ⟩ := h [] rfl (by simp) ⟨by simp, by simp, rfl, rfl, by simp, by simp, Nat.le_refl _⟩
  have hn : sizesOK l.toArray n := by
    intro k o d ho hd
    have := List.all_eq_true.1 hck.1 o (by simpa using Array.mem_of_getElem? ho)
    simpa [hd] using this
  have hrun : Run P l.toArray (fun i => i < nx) (lk E) (lkB σ) es := ⟨hlen, hi.op, fun k e he q hq => ⟨fun hlt => by have := (hi.ms k e he q hq).1; omega, fun j e' he' hjk hq' => hi.dis k j e e' he he' (fun e => hjk e.symm) q hq hq'⟩⟩
  have hend : ∀ a w, a.tmps.size = n → St w0 X D0 (apL es (fun _ => true) (fun i => i < nx) l.toArray.size) (apE l.toArray es (fun _ => true) (lk E) l.toArray.size) (apB es (fun _ => true) (lkB σ) l.toArray.size) a w →
      ∃ E' σ' nx', a.tmps.size = n ∧ St w0 X D0 (fun i => i < nx') (lk E') (lkB σ') a w ∧ Q .normal E' σ' nx' := by
    intro a w ha hs
    refine ⟨E', σ', nx', ha, ?_, hQ⟩
    rw [hi.eE, hi.eB, hlen]
    refine hs.more fun q hq => ?_
    rcases hq with hq | ⟨k, e, _, he, _, hq⟩
    · exact Nat.lt_of_lt_of_le hq hi.nn
    · exact (hi.ms k e he q hq).2
  cases draw with
  | false =>
    refine wp_region ?_
    rw [List.range_eq_range']
    refine run_text (n := n) hrun hn (w0 := w0) (X := X) (D0 := D0) hend l.toArray.size 0 (by omega) a w ha ?_
    have e : apL es (fun _ => true) (fun i => i < nx) 0 = fun i => i < nx := by funext q; simp [apL]
    rw [e]
    exact hs
  | true =>
    refine wp_region_any hmix ?_
    have e0 : (fun k => (Array.replicate l.toArray.size false).getD k false) = fun _ => false := by
      funext k
      by_cases hk : k < l.length <;> simp [Array.getD_eq_getD_getElem?, hk]
    have eE : ∀ k, apE l.toArray es (fun _ => false) (lk E) k = lk E := by
      intro k
      induction k with
      | zero => rfl
      | succ k ih => simp only [apE]; split <;> simp [ih]
    have eB : ∀ k, apB es (fun _ => false) (lkB σ) k = lkB σ := by
      intro k
      induction k with
      | zero => rfl
      | succ k ih => simp only [apB]; split <;> simp [ih]
    refine run_any (n := n) hrun (by simpa using hck.2) (by simpa using hkey rfl) hn (w0 := w0) (X := X) (D0 := D0) hend l.toArray.size _ (by simp) (fun i o ho hl => ?_) ?_ a _ ha ?_
    · have := congrFun e0 i
      simp only at this hl
      rw [this] at hl
      cases hl
    · have : (fun k => !(Array.replicate l.toArray.size false).getD k false) = fun _ => true := by
        funext k
        rw [congrFun e0 k]; rfl
      rw [this]
      exact Nat.le_trans (List.countP_le_length) (by simp)
    · rw [e0, eE, eB]
      refine (hs.drew).more fun q hq => .inl hq
def thenQ0 (P : Program) (n : Nat) (fx : List Nat) (y : Code) (Q : Exit → Env → Sto → Nat → Prop) : Exit → Env → Sto → Nat → Prop
  | .normal => PW P n fx y Q
  | e => Q e
structure thenQ (P : Program) (n : Nat) (fx : List Nat) (y : Code) (Q : Exit → Env → Sto → Nat → Prop) (e : Exit) (E : Env) (σ : Sto) (nx : Nat) : Prop where
  run : thenQ0 P n fx y Q e E σ nx
def blockQ0 (id : Nat) (Q : Exit → Env → Sto → Nat → Prop) : Exit → Env → Sto → Nat → Prop
  | .exit id' => if id' = id then Q .normal else Q (.exit id')
  | e => Q e
structure blockQ (id : Nat) (Q : Exit → Env → Sto → Nat → Prop) (e : Exit) (E : Env) (σ : Sto) (nx : Nat) : Prop where
  run : blockQ0 id Q e E σ nx
theorem pw_seq {x y : Code} (h : PW P n fx x (thenQ P n fx y Q) E σ nx) : PW P n fx (.seq x y) Q E σ nx := by
  refine ⟨?_⟩
  intro hmix hck w0 X D0 a w hfx ha hs
  simp only [codeOK, Bool.and_eq_true] at hck
  refine wp_seq (wp_mono (h.run hmix hck.1 w0 X D0 a w hfx ha hs) ?_)
  rintro e a' w' ⟨E', σ', nx', h1, h2, h3⟩
  replace h3 := h3.run
  cases e with
  | normal => exact PW.run h3 hmix hck.2 w0 X D0 a' w' hfx h1 h2
  | _ => exact ⟨E', σ', nx', h1, h2, h3⟩
theorem pw_block {id : Nat} {x : Code} (h : PW P n fx x (blockQ id Q) E σ nx) : PW P n fx (.block id x) Q E σ nx := by
  refine ⟨?_⟩
  intro hmix hck w0 X D0 a w hfx ha hs
  refine wp_block (wp_mono (h.run hmix hck w0 X D0 a w hfx ha hs) ?_)
  rintro e a' w' ⟨E', σ', nx', h1, h2, h3⟩
  replace h3 := h3.run
  cases e with
  | exit id' =>
    simp only [blockQ0] at h3
    simp only [Exit.inBlock]
    by_cases hid : id' = id
    · simp only [hid, if_true] at h3 ⊢
      exact ⟨E', σ', nx', h1, h2, h3⟩
    · simp only [hid, if_false] at h3 ⊢
      exact ⟨E', σ', nx', h1, h2, h3⟩
  | _ => exact ⟨E', σ', nx', h1, h2, h3⟩
theorem pw_cond {c : Operand} {x y : Code} {b : Bool} (hc : evO (lk E) c = .d (.bool b)) (ht : b = true → PW P n fx x Q E σ nx) (hf : b = false → PW P n fx y Q E σ nx) : PW P n fx (.cond c x y) Q E σ nx := by
  refine ⟨?_⟩
  intro hmix hck w0 X D0 a w hfx ha hs
  simp only [codeOK, Bool.and_eq_true] at hck
  obtain ⟨D, ρ, hsd⟩ := hs
  have hv := evO_rep hsd c
  rw [hc] at hv
  simp only [SRep, Rep] at hv
  exact wp_cond_split hv (fun h => (ht h).run hmix hck.1 w0 X D0 a w hfx ha ⟨D, ρ, hsd⟩) (fun h => (hf h).run hmix hck.2 w0 X D0 a w hfx ha ⟨D, ρ, hsd⟩)
theorem pw_skip (h : Q .normal E σ nx) : PW P n fx .skip Q E σ nx := ⟨fun _ _ _ _ _ _ _ _ ha hs => wp_skip ⟨E, σ, nx, ha, hs, h⟩⟩
theorem pw_label {l : Nat} (h : Q .normal E σ nx) : PW P n fx (.label l) Q E σ nx := ⟨fun _ _ _ _ _ _ _ _ ha hs => wp_label ⟨E, σ, nx, ha, hs, h⟩⟩
theorem pw_exit {id : Nat} (h : Q (.exit id) E σ nx) : PW P n fx (.exit id) Q E σ nx := ⟨fun _ _ _ _ _ _ _ _ ha hs => wp_exit ⟨E, σ, nx, ha, hs, h⟩⟩
theorem pw_ret (h : Q .ret E σ nx) : PW P n fx .ret Q E σ nx := ⟨fun _ _ _ _ _ _ _ _ ha hs => wp_ret ⟨E, σ, nx, ha, hs, h⟩⟩
theorem pw_mono {c : Code} {Q' : Exit → Env → Sto → Nat → Prop} (h : PW P n fx c Q E σ nx) (hq : ∀ e E σ nx, Q e E σ nx → Q' e E σ nx) : PW P n fx c Q' E σ nx :=
  ⟨fun hmix hck w0 X D0 a w hfx ha hs => wp_mono (h.run hmix hck w0 X D0 a w hfx ha hs) fun e a' w' ⟨E', σ', nx', h1, h2, h3⟩ => ⟨E', σ', nx', h1, h2, hq _ _ _ _ h3⟩⟩
/-- From one state to another that says less. -/
def WK (fx : List Nat) (E : Env) (σ : Sto) (nx : Nat) (E2 : Env) (σ2 : Sto) (nx2 : Nat) : Prop :=
  ∀ w0 X (D0 : Base) a w, (∀ i, D0.f i ≠ none → i ∈ fx) → St w0 X D0 (fun i => i < nx) (lk E) (lkB σ) a w → St w0 X D0 (fun i => i < nx2) (lk E2) (lkB σ2) a w
theorem WK.refl : WK fx E σ nx E σ nx := fun _ _ _ _ _ _ h => h
theorem WK.trans {E2 E3 : Env} {σ2 σ3 : Sto} {nx2 nx3 : Nat} (h : WK fx E σ nx E2 σ2 nx2) (h' : WK fx E2 σ2 nx2 E3 σ3 nx3) : WK fx E σ nx E3 σ3 nx3 := fun w0 X D0 a w hf hs => h' w0 X D0 a w hf (h w0 X D0 a w hf hs)
theorem pw_weak {c : Code} {E2 : Env} {σ2 : Sto} {nx2 : Nat} (h : WK fx E σ nx E2 σ2 nx2) (h2 : PW P n fx c Q E2 σ2 nx2) : PW P n fx c Q E σ nx :=
  ⟨fun hmix hck w0 X D0 a w hfx ha hs => h2.run hmix hck w0 X D0 a w hfx ha (h w0 X D0 a w hfx hs)⟩
/-- A loop. F: the state at its head. -/
theorem pw_loop {α : Type} {c : Code} (FE : α → Env) (Fσ : α → Sto) (nxL : Nat) (I : α → Prop) (μ : α → Nat) (a0 : α) (h0 : I a0) (hw : WK fx E σ nx (FE a0) (Fσ a0) nxL)
    (round : ∀ s, I s → PW P n fx c (fun e E' σ' nx' => match e with | .normal => ∃ s', I s' ∧ μ s' < μ s ∧ WK fx E' σ' nx' (FE s') (Fσ s') nxL | e => Q e E' σ' nx') (FE s) (Fσ s) nxL) : PW P n fx (.loop c) Q E σ nx := by
  refine ⟨?_⟩
  intro hmix hck w0 X D0 a w hfx ha hs
  have key : ∀ m s, μ s < m → I s → ∀ a w, a.tmps.size = n → St w0 X D0 (fun i => i < nxL) (lk (FE s)) (lkB (Fσ s)) a w → Code.rounds P c (fun e a' w' => ∃ E' σ' nx', a'.tmps.size = n ∧ St w0 X D0 (fun i => i < nx') (lk E') (lkB σ') a' w' ∧ Q e E' σ' nx') m a w := by
    intro m
    induction m with
    | zero => intro s h; omega
    | succ m ih =>
      intro s hm hI a w ha hs
      refine wp_mono ((round s hI).run hmix hck w0 X D0 a w hfx ha hs) ?_
      rintro e a' w' ⟨E', σ', nx', h1, h2, h3⟩
      cases e with
      | normal =>
        obtain ⟨s', k1, k2, k3⟩ := h3
        exact ih s' (by omega) k1 a' w' h1 (k3 w0 X D0 a' w' hfx h2)
      | _ => exact ⟨E', σ', nx', h1, h2, h3⟩
  exact wp_loop_rounds (μ a0 + 1) (key _ a0 (Nat.lt_succ_self _) h0 a w ha (hw w0 X D0 a w hfx hs))
end
end Go.Proofs.Ytikfkipalifohaa.A
