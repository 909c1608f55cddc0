/- The layer, part 16: a run of the abstract machine, for arguments that are known. -/
import Derived.Test.YtikfkipalifohaaA15
namespace Go.Proofs.Ytikfkipalifohaa.A
open Go Go.RowKit

/-! ### Numbers worked out as they are laid -/
def forceI {α : Type} (n : Int) (f : Int → α) : α := match n with
  | .ofNat m => forceN m fun m => f (.ofNat m)
  | .negSucc m => forceN m fun m => f (.negSucc m)
theorem forceI_eq {α : Type} (n : Int) (f : Int → α) : forceI n f = f n := by cases n <;> simp [forceI, forceN_eq]
mutual
def forceP {α : Type} : PV → (PV → α) → α
  | .int k n, f => forceI n fun n => f (.int k n)
  | .bool b, f => (match b with
    | true => f (.bool true)
    | false => f (.bool false))
  | .list rows, f => forceR rows fun rows => f (.list rows)
  | p, f => f p
def forceR {α : Type} : List (List PV) → (List (List PV) → α) → α
  | [], f => f []
  | r :: rs, f => forceC r fun r => forceR rs fun rs => f (r :: rs)
def forceC {α : Type} : List PV → (List PV → α) → α
  | [], f => f []
  | p :: ps, f => forceP p fun p => forceC ps fun ps => f (p :: ps)
end
mutual
theorem forceP_eq {α : Type} : ∀ (p : PV) (f : PV → α), forceP p f = f p
  | .int k n, f => by simp [forceP, forceI_eq]
  | .bool b, f => by cases b <;> simp [forceP]
  | .list rows, f => by simp only [forceP]; exact forceR_eq rows _
  | .str _, f => by simp [forceP]
  | .fn _, f => by simp [forceP]
theorem forceR_eq {α : Type} : ∀ (rs : List (List PV)) (f : List (List PV) → α), forceR rs f = f rs
  | [], f => by simp [forceR]
  | r :: rs, f => by simp only [forceR]; rw [forceC_eq r]; exact forceR_eq rs _
theorem forceC_eq {α : Type} : ∀ (ps : List PV) (f : List PV → α), forceC ps f = f ps
  | [], f => by simp [forceC]
  | p :: ps, f => by simp only [forceC]; rw [forceP_eq p]; exact forceC_eq ps _
end
mutual
def forceS {α : Type} : SV → (SV → α) → α
  | .d p, f => forceP p fun p => f (.d p)
  | .agg cs, f => forceL cs fun cs => f (.agg cs)
  | .tup cs, f => forceL cs fun cs => f (.tup cs)
  | .own i, f => forceN i fun i => f (.own i)
  | .ptr i o, f => forceN i fun i => forceN o fun o => f (.ptr i o)
  | .elt cs, f => forceC cs fun cs => f (.elt cs)
  | .oelt i j o, f => forceN i fun i => forceN j fun j => forceN o fun o => f (.oelt i j o)
  | .sbox i n, f => forceN i fun i => forceN n fun n => f (.sbox i n)
  | x, f => f x
def forceL {α : Type} : List SV → (List SV → α) → α
  | [], f => f []
  | x :: xs, f => forceS x fun x => forceL xs fun xs => f (x :: xs)
end
mutual
theorem forceS_eq {α : Type} : ∀ (x : SV) (f : SV → α), forceS x f = f x
  | .d p, f => by simp only [forceS]; exact forceP_eq p _
  | .agg cs, f => by simp only [forceS]; exact forceL_eq cs _
  | .tup cs, f => by simp only [forceS]; exact forceL_eq cs _
  | .own i, f => by simp only [forceS]; exact forceN_eq i _
  | .ptr i o, f => by simp only [forceS]; rw [forceN_eq]; exact forceN_eq o _
  | .elt cs, f => by simp only [forceS]; exact forceC_eq cs _
  | .oelt i j o, f => by simp only [forceS]; rw [forceN_eq, forceN_eq]; exact forceN_eq o _
  | .sbox i n, f => by simp only [forceS]; rw [forceN_eq]; exact forceN_eq n _
  | .junk, f => rfl
  | .nils, f => rfl
  | .view _ _ _, f => rfl
  | .fresh _ _ _, f => rfl
  | .pbox _, f => rfl
theorem forceL_eq {α : Type} : ∀ (xs : List SV) (f : List SV → α), forceL xs f = f xs
  | [], f => by simp [forceL]
  | x :: xs, f => by simp only [forceL]; rw [forceS_eq x]; exact forceL_eq xs _
end
def forceB {α : Type} : Blk → (Blk → α) → α
  | .box cs, f => forceL cs fun cs => f (.box cs)
  | .row T sz rows, f => forceN sz fun sz => forceR rows fun rows => f (.row T sz rows)
  | .ice rows, f => forceR rows fun rows => f (.ice rows)
theorem forceB_eq {α : Type} (b : Blk) (f : Blk → α) : forceB b f = f b := by cases b <;> simp [forceB, forceL_eq, forceN_eq, forceR_eq]
def forceW {α : Type} : Sto → (Sto → α) → α
  | [], f => f []
  | (i, none) :: wr, f => forceN i fun i => forceW wr fun wr => f ((i, none) :: wr)
  | (i, some b) :: wr, f => forceN i fun i => forceB b fun b => forceW wr fun wr => f ((i, some b) :: wr)
theorem forceW_eq {α : Type} : ∀ (wr : Sto) (f : Sto → α), forceW wr f = f wr
  | [], f => rfl
  | (i, none) :: wr, f => by simp only [forceW]; rw [forceN_eq]; exact forceW_eq wr _
  | (i, some b) :: wr, f => by simp only [forceW]; rw [forceN_eq, forceB_eq]; exact forceW_eq wr _
/-- A list's backbone. -/
def spine {α β : Type} : List β → (List β → α) → α
  | [], f => f []
  | x :: xs, f => spine xs fun xs => f (x :: xs)
theorem spine_eq {α β : Type} : ∀ (l : List β) (f : List β → α), spine l f = f l
  | [], f => rfl
  | x :: xs, f => by simp only [spine]; exact spine_eq xs _
def forceNs {α : Type} : List Nat → (List Nat → α) → α
  | [], f => f []
  | x :: xs, f => forceN x fun x => forceNs xs fun xs => f (x :: xs)
theorem forceNs_eq {α : Type} : ∀ (l : List Nat) (f : List Nat → α), forceNs l f = f l
  | [], f => rfl
  | x :: xs, f => by simp only [forceNs]; rw [forceN_eq]; exact forceNs_eq xs _

/-! ### The run -/
structure AS where
  E : Env
  σ : Sto
  nx : Nat
abbrev Oracle := FuncId → List SV → Option (SV × Sto)
/-- Which arguments a function is given for good. -/
abbrev Gives := FuncId → List Nat
def bsOf (g : List Nat) : Nat → List SV → List Bool
  | _, [] => []
  | k, _ :: xs => g.contains k :: bsOf g (k + 1) xs
def evalOp (P : Program) (call : Oracle) (gv : Gives) (S : AS) (o : Op) : Option OpR :=
  match o with
  | .call { callee := .value fx, args := args, argTypes := _ } => match evO (lk S.E) fx with
    | .d (.fn f) => match call f (argsOf (lkB S.σ) (bsOf (gv f) 0 (args.toList.map (evO (lk S.E)))) (args.toList.map (evO (lk S.E)))) with
      | some (r, R) => if (callR S.nx (lkB S.σ) (bsOf (gv f) 0 (args.toList.map (evO (lk S.E)))) (args.toList.map (evO (lk S.E))) r R).ok then some (callR S.nx (lkB S.σ) (bsOf (gv f) 0 (args.toList.map (evO (lk S.E)))) (args.toList.map (evO (lk S.E))) r R) else none
      | none => none
    | _ => none
  | o => if (opE P S.nx (lkB S.σ) (evO (lk S.E)) o).ok then some (opE P S.nx (lkB S.σ) (evO (lk S.E)) o) else none
/-- Behind an operation. -/
def after {α : Type} (S : AS) (dst : Option Nat) (r : OpR) (k : AS → Skel → α) : α :=
  forceS r.x fun x => forceW r.wr fun wr => forceNs r.rd fun rd => forceN (bump S.nx r.m) fun nx => spine (setE S.E dst x) fun E => spine (setW S.σ wr) fun σ => k ⟨E, σ, nx⟩ (wr.map (·.1), rd)
def wantE (ops : Array Oper) (E : Env) (g : Option (Nat × Bool)) : Option Bool :=
  match g with
  | none => some true
  | some (j, want) => match (ops[j]?).bind (·.dst) with
    | some t => match lk E t with
      | .d (.bool b) => some (b == want)
      | .tup [] => some false
      | _ => none
    | none => none
def runOps (P : Program) (call : Oracle) (gv : Gives) (ops : Array Oper) : List Oper → AS → List Skel → Option (AS × List Skel)
  | [], S, sk => some (S, sk)
  | o :: os, S, sk => match wantE ops S.E o.guard with
    | some true => match evalOp P call gv S o.op with
      | some r => after S o.dst r fun S s => runOps P call gv ops os S (s :: sk)
      | none => none
    | some false => spine (setE S.E o.dst (.tup [])) fun E => runOps P call gv ops os ⟨E, S.σ, S.nx⟩ (([], []) :: sk)
    | none => none
def runC (P : Program) (call : Oracle) (gv : Gives) : Nat → Code → AS → Option (Exit × AS)
  | 0, _, _ => none
  | n + 1, c, S => match c with
    | .region _ ops draw => match runOps P call gv ops ops.toList S [] with
      | some (S, sk) => if !draw || drawKeys ops sk.reverse then some (.normal, S) else none
      | none => none
    | .seq a b => match runC P call gv n a S with
      | some (.normal, S) => runC P call gv n b S
      | r => r
    | .cond c a b => match evO (lk S.E) c with
      | .d (.bool true) => runC P call gv n a S
      | .d (.bool false) => runC P call gv n b S
      | _ => none
    | .block id c => match runC P call gv n c S with
      | some (.exit id', S) => if id' = id then some (.normal, S) else some (.exit id', S)
      | r => r
    | .loop c => match runC P call gv n c S with
      | some (.normal, S) => runC P call gv n (.loop c) S
      | r => r
    | .skip => some (.normal, S)
    | .label _ => some (.normal, S)
    | .exit id => some (.exit id, S)
    | .ret => some (.ret, S)
    | _ => none
def pick1 (S : Sto) : List Nat → Sto
  | [] => []
  | i :: l => (i, lkB S i) :: pick1 S l
def ends : Exit → Bool
  | .normal => true
  | .ret => true
  | _ => false
def runF (P : Program) (lib : Oracle) (gv : Gives) (deep : Nat) : Nat → Oracle
  | 0, _, _ => none
  | n + 1, f, args => match lib f args with
    | some r => some r
    | none => match P.funcs[f]? with
      | none => none
      | some fn => match fn.body with
        | none => none
        | some c => if !(fn.name == "runtime.NumGoroutine") && codeOK fn.ntmps c && decide (args.length ≤ fn.ntmps) then
            match runC P (runF P lib gv deep n) gv deep c ⟨E0l args 0, σ0l args 0, args.length⟩ with
            | some (e, S) => if ends e && (fn.results.toList.all fun v => (resE P (lkB S.σ) (lk S.E) v).ok) then
                forceS (resS (fn.results.toList.map fun v => (resE P (lkB S.σ) (lk S.E) v).x)) fun r => forceW (pick1 S.σ (idsS r ++ fxl args 0)) fun R => some (r, R)
              else none
            | none => none
          else none

/-! ### It is so -/
section
variable {P : Program} {ops : Array Oper} {E0 : Nat → SV} {σ0 : Nat → Option Blk} {nx0 : Nat} {K : Env → Sto → Nat → List Skel → Prop} {os : List Oper} {o : Oper} {call : Oracle} {gv : Gives}
theorem after_eq {α : Type} (S : AS) (dst : Option Nat) (r : OpR) (k : AS → Skel → α) : after S dst r k = k ⟨setE S.E dst r.x, setW S.σ r.wr, bump S.nx r.m⟩ (r.wr.map (·.1), r.rd) := by
  simp only [after, forceS_eq, forceW_eq, forceNs_eq, forceN_eq, spine_eq]
/-- The guard, where it lets through. -/
def On (ops : Array Oper) (E : Env) (o : Oper) : Prop := o.guard = none ∨ ∃ j t b, o.guard = some (j, b) ∧ (ops[j]?).bind (·.dst) = some t ∧ lk E t = .d (.bool b)
theorem rsem_on {E : Env} {E' : Nat → SV} {L' : Nat → Prop} {σ' : Nat → Option Blk} {x : SV} {wr : Sto} {m : List Nat} (hon : On ops E o) (hE : ∀ t ∈ o.looksAt ops, E' t = lk E t) (h : OpSem P o L' E' σ' x wr m) : RSem P ops o L' E' σ' x wr m := by
  rcases hon with hg | ⟨j, t, b, hg, hj, hb⟩
  · exact rsem_plain hg h
  · have hgt : t ∈ o.looksAt ops := by
      unfold Oper.looksAt
      rw [hg]
      simp [hj]
    exact rsem_guard (G := True) hg hj (by rw [hE t hgt]; exact ⟨fun _ => hb, fun h => absurd trivial h⟩) (fun _ => h) (fun hn => absurd trivial hn)
theorem evalOp_sound {S : AS} {r : OpR} {sk : List Skel} (hcall : ∀ f args r R, call f args = some (r, R) → FnOK P f args r R) (hon : On ops S.E o) (h : evalOp P call gv S o.op = some r)
    (hk : RG P ops E0 σ0 nx0 K os (setE S.E o.dst r.x) (setW S.σ r.wr) (bump S.nx r.m) ((r.wr.map (·.1), r.rd) :: sk)) : RG P ops E0 σ0 nx0 K (o :: os) S.E S.σ S.nx sk := by
  have plain : ∀ r, (opE P S.nx (lkB S.σ) (evO (lk S.E)) o.op).ok = true → opE P S.nx (lkB S.σ) (evO (lk S.E)) o.op = r → RG P ops E0 σ0 nx0 K os (setE S.E o.dst r.x) (setW S.σ r.wr) (bump S.nx r.m) ((r.wr.map (·.1), r.rd) :: sk) → RG P ops E0 σ0 nx0 K (o :: os) S.E S.σ S.nx sk := by
    rintro r hok rfl hk
    exact rg_step (e := OpR.ent (opE P S.nx (lkB S.σ) (evO (lk S.E)) o.op)) (fun L' E' σ' hE hB hm => rsem_on hon hE (opE_good hm hE hB hok)) (opE_m _ _ _ _ _) hk
  unfold evalOp at h
  split at h
  · rename_i fx args ts hop
    split at h
    · rename_i f hf
      split at h
      · rename_i r' R hc
        split at h
        · rename_i hok
          injection h with h
          subst h
          exact rg_step (e := OpR.ent (callR S.nx (lkB S.σ) (bsOf (gv f) 0 (args.toList.map (evO (lk S.E)))) (args.toList.map (evO (lk S.E))) r' R)) (fun L' E' σ' hE hB hm => rsem_on hon hE (callL hop hf rfl hok (hcall _ _ _ _ hc) hE hB hm)) (callR_m S.nx (lkB S.σ) (bsOf (gv f) 0 (args.toList.map (evO (lk S.E)))) (args.toList.map (evO (lk S.E))) r' R) hk
        · cases h
      · cases h
    · cases h
  · split at h
    · rename_i hok
      injection h with h
      exact plain r hok h hk
    · cases h
theorem wantE_on {E : Env} (h : wantE ops E o.guard = some true) : On ops E o := by
  unfold wantE at h
  split at h
  · rename_i hg; exact .inl hg
  · rename_i j want hg
    split at h
    · rename_i t ht
      split at h
      · rename_i b hb
        simp only [Option.some.injEq, beq_iff_eq] at h
        subst h
        exact .inr ⟨j, t, b, hg, ht, hb⟩
      · cases h
      · cases h
    · cases h
theorem wantE_off {E : Env} (h : wantE ops E o.guard = some false) : ∃ j t want, o.guard = some (j, want) ∧ (ops[j]?).bind (·.dst) = some t ∧ guardOf (lk E t) want False := by
  unfold wantE at h
  split at h
  · cases h
  · rename_i j want hg
    split at h
    · rename_i t ht
      split at h
      · rename_i b hb
        simp only [Option.some.injEq, beq_eq_false_iff_ne] at h
        exact ⟨j, t, want, hg, ht, fun h => h.elim, fun _ => .inl (by rw [hb]; cases b <;> cases want <;> simp_all)⟩
      · rename_i hb
        exact ⟨j, t, want, hg, ht, fun h => h.elim, fun _ => .inr hb⟩
      · cases h
    · cases h
theorem runOps_sound (hcall : ∀ f args r R, call f args = some (r, R) → FnOK P f args r R) : ∀ (os : List Oper) (S : AS) (sk : List Skel) (S' : AS) (sk' : List Skel), runOps P call gv ops os S sk = some (S', sk') →
    RG P ops E0 σ0 nx0 (fun E σ nx s => E = S'.E ∧ σ = S'.σ ∧ nx = S'.nx ∧ s = sk') os S.E S.σ S.nx sk
  | [], S, sk, S', sk', h => by
    simp only [runOps, Option.some.injEq, Prod.mk.injEq] at h
    obtain ⟨rfl, rfl⟩ := h
    exact rg_nil ⟨rfl, rfl, rfl, rfl⟩
  | o :: os, S, sk, S', sk', h => by
    simp only [runOps] at h
    split at h
    · rename_i hw
      split at h
      · rename_i r hr
        rw [after_eq] at h
        exact evalOp_sound hcall (wantE_on hw) hr (runOps_sound hcall os _ _ _ _ h)
      · cases h
    · rename_i hw
      rw [spine_eq] at h
      obtain ⟨j, t, want, hg, hj, hb⟩ := wantE_off hw
      have := runOps_sound hcall os _ _ _ _ h
      refine rg_opg (r := badR) (G := False) hg hj hb (fun e => e.elim) (fun e => e.elim) rfl rfl ?_
      rw [if_neg not_false]
      exact this
    · cases h
end
section
variable {P : Program} {n : Nat} {fx : List Nat} {call : Oracle} {gv : Gives}
/-- The run ends so. -/
def isQ (r : Exit × AS) : Exit → Env → Sto → Nat → Prop := fun e E σ nx => e = r.1 ∧ E = r.2.E ∧ σ = r.2.σ ∧ nx = r.2.nx
theorem runC_sound (hcall : ∀ f args r R, call f args = some (r, R) → FnOK P f args r R) : ∀ (k : Nat) (c : Code) (S : AS) (r : Exit × AS), runC P call gv k c S = some r → PW P n fx c (isQ r) S.E S.σ S.nx := by
  intro k
  induction k using Nat.strongRecOn with
  | _ k ihs =>
   intro c S r h
   cases k with
   | zero => simp [runC] at h
   | succ k =>
    have ih := ihs k (Nat.lt_succ_self k)
    cases c with
    | region id ops draw =>
      simp only [runC] at h
      split at h
      · rename_i S' sk hr
        split at h
        · rename_i hd
          injection h with h
          subst h
          have h1 := runOps_sound (E0 := lk S.E) (σ0 := lkB S.σ) (nx0 := S.nx) hcall ops.toList S [] S' sk hr
          have : ops = ops.toList.toArray := by simp
          rw [this]
          refine pw_region ?_
          rw [← this]
          intro es e1 e2 e3
          obtain ⟨E', σ', nx', es', k1, k2, k3, k4, k5, k6⟩ := h1 es e1 e2 e3
          refine ⟨E', σ', nx', es', k1, k2, fun hdr => ?_, rfl, k3, k4, k5⟩
          rw [k6]
          simpa [hdr] using hd
        · cases h
      · cases h
    | seq a b =>
      simp only [runC] at h
      split at h
      · rename_i S' hr
        refine pw_seq (pw_mono (ih a S _ hr) ?_)
        rintro e E σ nx ⟨rfl, rfl, rfl, rfl⟩
        exact ⟨ih b S' r h⟩
      · rename_i hn
        refine pw_seq (pw_mono (ih a S r h) ?_)
        rintro e E σ nx ⟨rfl, rfl, rfl, rfl⟩
        obtain ⟨e, S'⟩ := r
        cases e with
        | normal => exact absurd h (by intro h; exact hn S' h)
        | _ => exact ⟨⟨rfl, rfl, rfl, rfl⟩⟩
    | cond c a b =>
      simp only [runC] at h
      split at h
      · rename_i hc
        exact pw_cond hc (fun _ => ih a S r h) (fun e => by cases e)
      · rename_i hc
        exact pw_cond hc (fun e => by cases e) (fun _ => ih b S r h)
      · cases h
    | block id c =>
      simp only [runC] at h
      split at h
      · rename_i id' S' hr
        refine pw_block (pw_mono (ih c S _ hr) ?_)
        rintro e E σ nx ⟨rfl, rfl, rfl, rfl⟩
        refine ⟨?_⟩
        simp only [blockQ0]
        split at h
        · rename_i hid
          injection h with h
          subst h
          rw [if_pos hid]
          exact ⟨rfl, rfl, rfl, rfl⟩
        · rename_i hid
          injection h with h
          subst h
          rw [if_neg hid]
          exact ⟨rfl, rfl, rfl, rfl⟩
      · rename_i hn
        refine pw_block (pw_mono (ih c S r h) ?_)
        rintro e E σ nx ⟨rfl, rfl, rfl, rfl⟩
        obtain ⟨e, S'⟩ := r
        cases e with
        | exit id' => exact absurd h (by intro h; exact hn id' S' h)
        | _ => exact ⟨⟨rfl, rfl, rfl, rfl⟩⟩
    | loop c =>
      -- so many rounds
      refine ⟨?_⟩
      intro hmix hck w0 X D0 a w hfx ha hs
      have key : ∀ (m k : Nat), k < m → ∀ (S : AS), runC P call gv k (.loop c) S = some r → (∀ k', k' < k → ∀ S r, runC P call gv k' c S = some r → PW P n fx c (isQ r) S.E S.σ S.nx) → ∀ a w, a.tmps.size = n → St w0 X D0 (fun i => i < S.nx) (lk S.E) (lkB S.σ) a w →
          Code.rounds P c (fun e a' w' => ∃ E' σ' nx', a'.tmps.size = n ∧ St w0 X D0 (fun i => i < nx') (lk E') (lkB σ') a' w' ∧ isQ r e E' σ' nx') m a w := by
        intro m
        induction m with
        | zero => intro k h; omega
        | succ m ihm =>
          intro k hk S hr hih a w ha hs
          cases k with
          | zero => simp [runC] at hr
          | succ k =>
            simp only [runC] at hr
            split at hr
            · rename_i S' hr'
              refine wp_mono ((hih k (by omega) S _ hr').run hmix hck w0 X D0 a w hfx ha hs) ?_
              rintro e a' w' ⟨E', σ', nx', h1, h2, rfl, rfl, rfl, rfl⟩
              exact ihm k (by omega) S' hr (fun k' hk' => hih k' (by omega)) a' w' h1 h2
            · rename_i hn
              refine wp_mono ((hih k (by omega) S _ hr).run hmix hck w0 X D0 a w hfx ha hs) ?_
              rintro e a' w' ⟨E', σ', nx', h1, h2, rfl, rfl, rfl, rfl⟩
              obtain ⟨e, S'⟩ := r
              cases e with
              | normal => exact absurd hr (by intro h; exact hn S' h)
              | _ => exact ⟨_, _, _, h1, h2, rfl, rfl, rfl, rfl⟩
      refine wp_loop_rounds (k + 2) (key (k + 2) (k + 1) (by omega) S h (fun k' hk' S r hr => ihs k' hk' c S r hr) a w ha hs)
    | skip => simp only [runC, Option.some.injEq] at h; subst h; exact pw_skip ⟨rfl, rfl, rfl, rfl⟩
    | label l => simp only [runC, Option.some.injEq] at h; subst h; exact pw_label ⟨rfl, rfl, rfl, rfl⟩
    | exit id => simp only [runC, Option.some.injEq] at h; subst h; exact pw_exit ⟨rfl, rfl, rfl, rfl⟩
    | ret => simp only [runC, Option.some.injEq] at h; subst h; exact pw_ret ⟨rfl, rfl, rfl, rfl⟩
    | _ => simp [runC] at h
theorem wk_forget {E : Env} {σ σ2 : Sto} {nx : Nat} (h : ∀ i, lkB σ2 i = none ∨ lkB σ2 i = lkB σ i) : WK fx E σ nx E σ2 nx := by
  intro w0 X D0 a w _ ⟨D, ρ, hs⟩
  have hm : Mv w w D D ρ ρ (lkB σ) (lkB σ2) := by
    refine ⟨fun _ _ => rfl, fun _ h => h, fun _ _ h => h, fun i r v _ ho => ?_, fun i g j off v _ ho => ?_⟩
    · rcases h i with h | h <;> rw [h]
      · exact ⟨fun _ _ _ h => by simp at h, fun _ h => by simp at h⟩
      · exact ho
    · rcases h i with h | h <;> rw [h]
      · exact fun _ _ _ h => by simp at h
      · exact ho
  have hb : ∀ i b, lkB σ2 i = some b → lkB σ i = some b := by
    intro i b hb
    rcases h i with h | h <;> rw [h] at hb
    · cases hb
    · exact hb
  refine ⟨D, ρ, ⟨fun t => SRep.mv hm _ _ (hs.slots t), hs.ndef, hs.kept, hs.dlt, hs.dold, hs.dnew, hs.fix, hs.given, fun i b hb' => ?_, fun i b g h1 => hs.apart i b g (hb i b h1), fun i j b c g h1 h2 => hs.inj i j b c g (hb i b h1) (hb j c h2)⟩⟩
  have := hs.blk i b (hb i b hb')
  cases b with
  | box cs =>
    obtain ⟨g, arr, T, h1, h2, h3, h4⟩ := this
    exact ⟨g, arr, T, h1, h2, SReps.mv hm _ _ h3, h4⟩
  | row T sz rows => exact this
  | ice rows => exact this
theorem pick1_at (S : Sto) : ∀ (l : List Nat) (i : Nat), lkB (pick1 S l) i = none ∨ lkB (pick1 S l) i = lkB S i
  | [], i => .inl rfl
  | j :: l, i => by
    simp only [pick1, lkB]
    by_cases h : j = i
    · subst h; simp
    · rw [if_neg h]; exact pick1_at S l i
theorem runF_sound {lib : Oracle} {gv : Gives} {deep : Nat} (hmix : P.follows .mixedOrders = true) (hlib : ∀ f args r R, lib f args = some (r, R) → FnOK P f args r R) : ∀ (k : Nat) (f : FuncId) (args : List SV) (r : SV) (R : Sto), runF P lib gv deep k f args = some (r, R) → FnOK P f args r R
  | 0, f, args, r, R, h => by simp [runF] at h
  | k + 1, f, args, r, R, h => by
    have ih := runF_sound (gv := gv) (deep := deep) hmix hlib k
    simp only [runF] at h
    split at h
    · rename_i r' hl
      injection h with h
      subst h
      exact hlib f args _ _ hl
    · split at h
      · cases h
      · rename_i fn hf
        split at h
        · cases h
        · rename_i c hb
          split at h
          · rename_i hck
            simp only [Bool.and_eq_true, Bool.not_eq_true'] at hck
            obtain ⟨⟨hname, hck⟩, hlen⟩ := hck
            split at h
            · rename_i e S hr
              split at h
              · rename_i hend
                simp only [Bool.and_eq_true] at hend
                rw [forceS_eq, forceW_eq] at h
                simp only [Option.some.injEq, Prod.mk.injEq] at h
                obtain ⟨rfl, rfl⟩ := h
                refine fn_ok hf hb hname hmix rfl rfl hck hlen (pw_mono (runC_sound ih _ _ _ _ hr) ?_)
                rintro e' E σ nx ⟨rfl, rfl, rfl, rfl⟩
                refine ⟨?_, hend.2, S.nx, wk_forget (pick1_at _ _)⟩
                have := hend.1
                cases e' <;> simp_all [ends]
              · cases h
            · cases h
          · cases h
end
end Go.Proofs.Ytikfkipalifohaa.A
