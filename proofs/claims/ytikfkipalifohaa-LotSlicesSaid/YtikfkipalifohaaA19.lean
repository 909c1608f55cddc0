/- The layer, part 19: the same rules, with what follows kept out of sight. -/
import Derived.Test.YtikfkipalifohaaA18
namespace Go.Proofs.Ytikfkipalifohaa.A
open Go Go.RowKit

/-- What is still to be gone through of a region: os. ds: where each operation writes. -/
structure RX (P : Program) (ds : List (Option Nat)) (os : List Oper) (E : Env) (σ : Sto) (nx : Nat) (sk : List Skel) (K : Env → Sto → Nat → List Skel → Prop) : Prop where
  run : ∀ ops E0 σ0 nx0, ops.toList.map (·.dst) = ds → RG P ops E0 σ0 nx0 K os E σ nx sk

section
variable {P : Program} {ds : List (Option Nat)} {K : Env → Sto → Nat → List Skel → Prop} {os : List Oper} {E E' : Env} {σ σ' : Sto} {nx nx' : Nat} {sk : List Skel} {o : Oper}
theorem ds_at {ops : Array Oper} (h : ops.toList.map (·.dst) = ds) (j : Nat) {t : Nat} (hj : (ds[j]?).bind id = some t) : (ops[j]?).bind (·.dst) = some t := by
  subst h
  rw [List.getElem?_map] at hj
  cases ho : ops[j]? with
  | none => simp [ho] at hj
  | some o => simpa [ho] using hj
theorem rx_nil (h : K E σ nx sk) : RX P ds [] E σ nx sk K := ⟨fun _ _ _ _ _ => rg_nil h⟩
theorem rx_op {r : OpR} (hg : o.guard = none) (hr : opE P nx (lkB σ) (evO (lk E)) o.op = r) (hok : r.ok = true) (hE : setE E o.dst r.x = E') (hσ : setW σ r.wr = σ') (hn : bump nx r.m = nx') (h : RX P ds os E' σ' nx' ((r.wr.map (·.1), r.rd) :: sk) K) : RX P ds (o :: os) E σ nx sk K := by
  subst hE hσ hn
  exact ⟨fun ops E0 σ0 nx0 hd => rg_op hg hr hok (h.run ops E0 σ0 nx0 hd)⟩
theorem rx_opg {r : OpR} {j t : Nat} {want : Bool} {G : Prop} [Decidable G] {x : SV} (hg : o.guard = some (j, want)) (hj : (ds[j]?).bind id = some t) (hb : guardOf (lk E t) want G) (hr : G → opE P nx (lkB σ) (evO (lk E)) o.op = r) (hok : G → r.ok = true) (hw : r.wr = []) (hm : r.m = []) (hx : (if G then r.x else .tup []) = x) (hE : setE E o.dst x = E')
    (h : RX P ds os E' σ nx (([], r.rd) :: sk) K) : RX P ds (o :: os) E σ nx sk K := by
  subst hE hx
  exact ⟨fun ops E0 σ0 nx0 hd => rg_opg hg (ds_at hd j hj) hb hr hok hw hm (h.run ops E0 σ0 nx0 hd)⟩
theorem rx_call {f : FuncId} {fx : Operand} {args : Array Operand} {ts : Array TypeId} {bs : List Bool} {xs ys : List SV} {r : SV} {R : Sto} {c : OpR} (hg : o.guard = none) (ho : o.op = .call { callee := .value fx, args := args, argTypes := ts }) (hf : evO (lk E) fx = .d (.fn f)) (hxs : args.toList.map (evO (lk E)) = xs)
    (hys : argsOf (lkB σ) bs xs = ys) (hF : FnOK P f ys r R) (hc : callR nx (lkB σ) bs xs r R = c) (hok : c.ok = true) (hE : setE E o.dst c.x = E') (hσ : setW σ c.wr = σ') (hn : bump nx c.m = nx') (h : RX P ds os E' σ' nx' ((c.wr.map (·.1), c.rd) :: sk) K) : RX P ds (o :: os) E σ nx sk K := by
  subst hE hσ hn
  exact ⟨fun ops E0 σ0 nx0 hd => rg_call hg ho hf hxs hys hF hc hok (h.run ops E0 σ0 nx0 hd)⟩
theorem rx_callg {f : FuncId} {fx : Operand} {args : Array Operand} {ts : Array TypeId} {bs : List Bool} {xs ys : List SV} {r : SV} {R : Sto} {c : OpR} {j t : Nat} {want : Bool} {G : Prop} [Decidable G] {x : SV} (hg : o.guard = some (j, want)) (hj : (ds[j]?).bind id = some t) (hb : guardOf (lk E t) want G)
    (ho : o.op = .call { callee := .value fx, args := args, argTypes := ts }) (hf : G → evO (lk E) fx = .d (.fn f)) (hxs : G → args.toList.map (evO (lk E)) = xs)
    (hys : G → argsOf (lkB σ) bs xs = ys) (hF : G → FnOK P f ys r R) (hc : callR nx (lkB σ) bs xs r R = c) (hok : G → c.ok = true) (hw : c.wr = []) (hm : c.m = []) (hx : (if G then c.x else .tup []) = x) (hE : setE E o.dst x = E')
    (h : RX P ds os E' σ nx (([], c.rd) :: sk) K) : RX P ds (o :: os) E σ nx sk K := by
  subst hE hx
  exact ⟨fun ops E0 σ0 nx0 hd => rg_callg hg (ds_at hd j hj) hb ho hf hxs hys hF hc hok hw hm (h.run ops E0 σ0 nx0 hd)⟩
/-- An operation's whole doing, told to φ. -/
def stepE (P : Program) (E : Env) (σ : Sto) (nx : Nat) (dst : Option Nat) (op : Op) (φ : Bool → Env → Sto → Nat → Skel → Prop) : Prop :=
  φ (opE P nx (lkB σ) (evO (lk E)) op).ok (setE E dst (opE P nx (lkB σ) (evO (lk E)) op).x) (setW σ (opE P nx (lkB σ) (evO (lk E)) op).wr) (bump nx (opE P nx (lkB σ) (evO (lk E)) op).m)
    ((opE P nx (lkB σ) (evO (lk E)) op).wr.map (·.1), (opE P nx (lkB σ) (evO (lk E)) op).rd)
theorem rx {ok : Bool} {s : Skel} {dst : Option Nat} {op : Op} {t : TypeId} {pos : String} {after : Array Edge} (hr : ∀ φ : Bool → Env → Sto → Nat → Skel → Prop, φ ok E' σ' nx' s → stepE P E σ nx dst op φ) (hok : ok = true) (h : RX P ds os E' σ' nx' (s :: sk) K) : RX P ds (⟨dst, op, t, pos, after, none⟩ :: os) E σ nx sk K := by
  have := hr (fun ok E2 σ2 nx2 s2 => ok = true → E2 = E' ∧ σ2 = σ' ∧ nx2 = nx' ∧ s2 = s) (fun _ => ⟨rfl, rfl, rfl, rfl⟩)
  have hk := hr (fun ok2 _ _ _ _ => ok2 = ok) rfl
  simp only [stepE] at this hk
  obtain ⟨e2, e3, e4, e5⟩ := this (hk.trans hok)
  subst e5
  exact rx_op rfl rfl (hk.trans hok) e2 e3 e4 h
/-- .. under a guard. -/
def stepG (P : Program) (E : Env) (σ : Sto) (nx : Nat) (op : Op) (φ : Bool → SV → Sto → List Nat → List Nat → Prop) : Prop :=
  φ (opE P nx (lkB σ) (evO (lk E)) op).ok (opE P nx (lkB σ) (evO (lk E)) op).x (opE P nx (lkB σ) (evO (lk E)) op).wr (opE P nx (lkB σ) (evO (lk E)) op).m (opE P nx (lkB σ) (evO (lk E)) op).rd
theorem rxG {ok : Bool} {x : SV} {rd : List Nat} {j t : Nat} {want : Bool} {G : Prop} [Decidable G] {dst : Option Nat} {op : Op} {ty : TypeId} {pos : String} {after : Array Edge} (hj : (ds[j]?).bind id = some t) (hb : guardOf (lk E t) want G)
    (hr : G → ∀ φ : Bool → SV → Sto → List Nat → List Nat → Prop, φ ok x [] [] rd → stepG P E σ nx op φ) (hok : G → ok = true)
    (hx : ∀ φ : Env → Prop, φ E' → φ (setE E dst (if G then x else .tup []))) (h : RX P ds os E' σ nx (([], rd) :: sk) K) : RX P ds (⟨dst, op, ty, pos, after, some (j, want)⟩ :: os) E σ nx sk K := by
  have he := hx (fun y => y = E') rfl
  refine rx_opg (r := ⟨ok, x, [], [], rd⟩) rfl hj hb (fun hbw => ?_) hok rfl rfl rfl he h
  have := hr hbw (fun a b c d e => (⟨a, b, c, d, e⟩ : OpR) = ⟨ok, x, [], [], rd⟩) rfl
  simpa only [stepG] using this
/-- .. the guard's slot holds b. -/
theorem rxg {ok : Bool} {x : SV} {rd : List Nat} {j t : Nat} {want b : Bool} {dst : Option Nat} {op : Op} {ty : TypeId} {pos : String} {after : Array Edge} (hj : (ds[j]?).bind id = some t) (hb : ∀ φ : SV → Prop, φ (.d (.bool b)) → φ (lk E t))
    (hr : b = want → ∀ φ : Bool → SV → Sto → List Nat → List Nat → Prop, φ ok x [] [] rd → stepG P E σ nx op φ) (hok : b = want → ok = true)
    (hx : ∀ φ : Env → Prop, φ E' → φ (setE E dst (if b = want then x else .tup []))) (h : RX P ds os E' σ nx (([], rd) :: sk) K) : RX P ds (⟨dst, op, ty, pos, after, some (j, want)⟩ :: os) E σ nx sk K :=
  rxG hj (guardOf_eq (hb (fun v => v = .d (.bool b)) rfl)) hr hok hx h
/-- .. the guard's slot is itself guarded. -/
theorem rxg2 {ok : Bool} {x : SV} {rd : List Nat} {j t : Nat} {want b : Bool} {c0 w0 : Bool} {dst : Option Nat} {op : Op} {ty : TypeId} {pos : String} {after : Array Edge} (hj : (ds[j]?).bind id = some t) (hb : ∀ φ : SV → Prop, φ (if c0 = w0 then .d (.bool b) else .tup []) → φ (lk E t))
    (hr : c0 = w0 ∧ b = want → ∀ φ : Bool → SV → Sto → List Nat → List Nat → Prop, φ ok x [] [] rd → stepG P E σ nx op φ) (hok : c0 = w0 ∧ b = want → ok = true)
    (hx : ∀ φ : Env → Prop, φ E' → φ (setE E dst (if c0 = w0 ∧ b = want then x else .tup []))) (h : RX P ds os E' σ nx (([], rd) :: sk) K) : RX P ds (⟨dst, op, ty, pos, after, some (j, want)⟩ :: os) E σ nx sk K :=
  rxG hj (guardOf_if (hb (fun v => v = if c0 = w0 then .d (.bool b) else .tup []) rfl)) hr hok hx h
/-- A truth value is moved under a guard: it goes by a name of its own from there on. -/
theorem rxg_movb {j t : Nat} {want b b' : Bool} {dst : Option Nat} {y : Operand} {ty : TypeId} {pos : String} {after : Array Edge} (hj : (ds[j]?).bind id = some t) (hb : ∀ φ : SV → Prop, φ (.d (.bool b)) → φ (lk E t))
    (hr : b = want → ∀ φ : SV → Prop, φ (.d (.bool b')) → φ (evO (lk E) y)) (h : ∀ c : Bool, b' = c → RX P ds os (setE E dst (if b = want then .d (.bool c) else .tup [])) σ nx (([], []) :: sk) K) : RX P ds (⟨dst, .move y, ty, pos, after, some (j, want)⟩ :: os) E σ nx sk K := by
  refine rxG (G := b = want) (ok := true) (x := .d (.bool b')) (rd := []) hj (guardOf_eq (hb (fun v => v = .d (.bool b)) rfl)) (fun hw φ hφ => ?_) (fun _ => rfl) (fun φ hφ => hφ) (h b' rfl)
  have := hr hw (fun v => v = .d (.bool b')) rfl
  simp only [stepG, opE, valR, this]
  exact hφ
/-- A truth value is moved: it goes by a name of its own from there on. -/
theorem rx_movb {b : Bool} {dst : Option Nat} {x : Operand} {t : TypeId} {pos : String} {after : Array Edge} (hr : ∀ φ : SV → Prop, φ (.d (.bool b)) → φ (evO (lk E) x)) (h : ∀ c : Bool, b = c → RX P ds os (setE E dst (.d (.bool c))) σ nx (([], []) :: sk) K) : RX P ds (⟨dst, .move x, t, pos, after, none⟩ :: os) E σ nx sk K := by
  have he := hr (fun v => v = .d (.bool b)) rfl
  refine rx_op (r := ⟨true, .d (.bool b), [], [], []⟩) rfl ?_ rfl rfl rfl rfl (h b rfl)
  simp only [opE, valR, he]
/-- A call's whole doing, told to φ. -/
def stepC (E : Env) (σ : Sto) (nx : Nat) (dst : Option Nat) (bs : List Bool) (xs : List SV) (r : SV) (R : Sto) (φ : Bool → Env → Sto → Nat → Skel → Prop) : Prop :=
  φ (callR nx (lkB σ) bs xs r R).ok (setE E dst (callR nx (lkB σ) bs xs r R).x) (setW σ (callR nx (lkB σ) bs xs r R).wr) (bump nx (callR nx (lkB σ) bs xs r R).m) ((callR nx (lkB σ) bs xs r R).wr.map (·.1), (callR nx (lkB σ) bs xs r R).rd)
theorem rxc (bs : List Bool) {f : FuncId} {fx : Operand} {args : Array Operand} {ts : Array TypeId} {xs ys : List SV} {r : SV} {R : Sto} {s : Skel} {dst : Option Nat} {t : TypeId} {pos : String} {after : Array Edge} (hf : evO (lk E) fx = .d (.fn f))
    (hxs : ∀ φ : List SV → List SV → Prop, φ xs ys → φ (args.toList.map (evO (lk E))) (argsOf (lkB σ) bs (args.toList.map (evO (lk E))))) (hF : FnOK P f ys r R)
    (hr : ∀ φ : Bool → Env → Sto → Nat → Skel → Prop, φ true E' σ' nx' s → stepC E σ nx dst bs xs r R φ) (h : RX P ds os E' σ' nx' (s :: sk) K) : RX P ds (⟨dst, .call { callee := .value fx, args := args, argTypes := ts }, t, pos, after, none⟩ :: os) E σ nx sk K := by
  have hx := hxs (fun a b => a = xs ∧ b = ys) ⟨rfl, rfl⟩
  have this := hr (fun ok E2 σ2 nx2 s2 => ok = true ∧ E2 = E' ∧ σ2 = σ' ∧ nx2 = nx' ∧ s2 = s) ⟨rfl, rfl, rfl, rfl, rfl⟩
  simp only [stepC] at this
  obtain ⟨hok, e2, e3, e4, e5⟩ := this
  subst e5
  have h2 := hx.2
  rw [hx.1] at h2
  exact rx_call rfl rfl hf hx.1 h2 hF rfl hok e2 e3 e4 h
/-- .. under a guard. -/
def stepCG (σ : Sto) (nx : Nat) (bs : List Bool) (xs : List SV) (r : SV) (R : Sto) (φ : Bool → SV → Sto → List Nat → List Nat → Prop) : Prop :=
  φ (callR nx (lkB σ) bs xs r R).ok (callR nx (lkB σ) bs xs r R).x (callR nx (lkB σ) bs xs r R).wr (callR nx (lkB σ) bs xs r R).m (callR nx (lkB σ) bs xs r R).rd
theorem rxcG (bs : List Bool) {f : FuncId} {fx : Operand} {args : Array Operand} {ts : Array TypeId} {xs ys : List SV} {r x : SV} {R : Sto} {rd : List Nat} {dst : Option Nat} {ty : TypeId} {pos : String} {after : Array Edge} {j t : Nat} {want : Bool} {G : Prop} [Decidable G] (hj : (ds[j]?).bind id = some t) (hb : guardOf (lk E t) want G)
    (hf : evO (lk E) fx = .d (.fn f)) (hxs : G → ∀ φ : List SV → List SV → Prop, φ xs ys → φ (args.toList.map (evO (lk E))) (argsOf (lkB σ) bs (args.toList.map (evO (lk E))))) (hF : G → FnOK P f ys r R)
    (hr : ∀ φ : Bool → SV → Sto → List Nat → List Nat → Prop, φ true x [] [] rd → stepCG σ nx bs xs r R φ) (hx : ∀ φ : Env → Prop, φ E' → φ (setE E dst (if G then x else .tup []))) (h : RX P ds os E' σ nx (([], rd) :: sk) K) :
    RX P ds (⟨dst, .call { callee := .value fx, args := args, argTypes := ts }, ty, pos, after, some (j, want)⟩ :: os) E σ nx sk K := by
  have he := hx (fun y => y = E') rfl
  have hc : callR nx (lkB σ) bs xs r R = ⟨true, x, [], [], rd⟩ := by
    have := hr (fun a b c d e => (⟨a, b, c, d, e⟩ : OpR) = ⟨true, x, [], [], rd⟩) rfl
    simpa only [stepCG] using this
  have hx2 : G → args.toList.map (evO (lk E)) = xs ∧ argsOf (lkB σ) bs (args.toList.map (evO (lk E))) = ys := fun hw => hxs hw (fun a b => a = xs ∧ b = ys) ⟨rfl, rfl⟩
  exact rx_callg rfl hj hb rfl (fun _ => hf) (fun hw => (hx2 hw).1) (fun hw => by have := (hx2 hw).2; rw [(hx2 hw).1] at this; exact this) hF hc (fun _ => rfl) rfl rfl rfl he h
theorem rxcg (bs : List Bool) {f : FuncId} {fx : Operand} {args : Array Operand} {ts : Array TypeId} {xs ys : List SV} {r x : SV} {R : Sto} {rd : List Nat} {dst : Option Nat} {ty : TypeId} {pos : String} {after : Array Edge} {j t : Nat} {want b : Bool} (hj : (ds[j]?).bind id = some t) (hb : ∀ φ : SV → Prop, φ (.d (.bool b)) → φ (lk E t))
    (hf : evO (lk E) fx = .d (.fn f)) (hxs : b = want → ∀ φ : List SV → List SV → Prop, φ xs ys → φ (args.toList.map (evO (lk E))) (argsOf (lkB σ) bs (args.toList.map (evO (lk E))))) (hF : b = want → FnOK P f ys r R)
    (hr : ∀ φ : Bool → SV → Sto → List Nat → List Nat → Prop, φ true x [] [] rd → stepCG σ nx bs xs r R φ) (hx : ∀ φ : Env → Prop, φ E' → φ (setE E dst (if b = want then x else .tup []))) (h : RX P ds os E' σ nx (([], rd) :: sk) K) :
    RX P ds (⟨dst, .call { callee := .value fx, args := args, argTypes := ts }, ty, pos, after, some (j, want)⟩ :: os) E σ nx sk K :=
  rxcG bs hj (guardOf_eq (hb (fun v => v = .d (.bool b)) rfl)) hf hxs hF hr hx h
theorem rxcg2 (bs : List Bool) {f : FuncId} {fx : Operand} {args : Array Operand} {ts : Array TypeId} {xs ys : List SV} {r x : SV} {R : Sto} {rd : List Nat} {dst : Option Nat} {ty : TypeId} {pos : String} {after : Array Edge} {j t : Nat} {want b : Bool} {c0 w0 : Bool} (hj : (ds[j]?).bind id = some t) (hb : ∀ φ : SV → Prop, φ (if c0 = w0 then .d (.bool b) else .tup []) → φ (lk E t))
    (hf : evO (lk E) fx = .d (.fn f)) (hxs : c0 = w0 ∧ b = want → ∀ φ : List SV → List SV → Prop, φ xs ys → φ (args.toList.map (evO (lk E))) (argsOf (lkB σ) bs (args.toList.map (evO (lk E))))) (hF : c0 = w0 ∧ b = want → FnOK P f ys r R)
    (hr : ∀ φ : Bool → SV → Sto → List Nat → List Nat → Prop, φ true x [] [] rd → stepCG σ nx bs xs r R φ) (hx : ∀ φ : Env → Prop, φ E' → φ (setE E dst (if c0 = w0 ∧ b = want then x else .tup []))) (h : RX P ds os E' σ nx (([], rd) :: sk) K) :
    RX P ds (⟨dst, .call { callee := .value fx, args := args, argTypes := ts }, ty, pos, after, some (j, want)⟩ :: os) E σ nx sk K :=
  rxcG bs hj (guardOf_if (hb (fun v => v = if c0 = w0 then .d (.bool b) else .tup []) rfl)) hf hxs hF hr hx h
theorem rx_view {x : Operand} {t e : TypeId} {lo hi : Option Operand} {i sz : Nat} {T : TypeId} {rows : List (List PV)} {l h : Int} (hg : o.guard = none) (ho : o.op = .slice t x lo hi none) (hk : (ti P t).kind = .slice e) (hok : (ti P e).ok = true) (hx : evO (lk E) x = .own i) (hb : lkB σ i = some (.row T sz rows)) (hsz : (ti P e).size = sz)
    (hl : bndE (evO (lk E)) 0 lo = some l) (hh : bndE (evO (lk E)) rows.length hi = some h) (h0 : 0 ≤ l) (h1 : l < h) (h3 : h ≤ rows.length) (hE : setE E o.dst (.view i l.toNat h.toNat) = E') (hn : RX P ds os E' σ nx (([], [i]) :: sk) K) : RX P ds (o :: os) E σ nx sk K := by
  subst hE
  exact ⟨fun ops E0 σ0 nx0 hd => rg_view hg ho hk hok hx hb hsz hl hh h0 h1 h3 (hn.run ops E0 σ0 nx0 hd)⟩
theorem rx_copy {x y : Operand} {t t' e : TypeId} {i lo hi sz : Nat} {T : TypeId} {rows src : List (List PV)} {rd : List Nat} {v : SV} {rows' : List (List PV)} (hg : o.guard = none) (ho : o.op = .call { callee := .builtin .copy, args := #[x, y], argTypes := #[t, t'] }) (hk : (ti P t).kind = .slice e) (hok : (ti P e).ok = true) (hsize : (ti P e).size = sz)
    (hx : pieceS (lkB σ) (evO (lk E) x) = some (i, lo, hi)) (hb : lkB σ i = some (.row T sz rows)) (hy : srcS (lkB σ) (evO (lk E) y) = some src) (hl : ∀ r ∈ src, r.length = sz)
    (hrd : ∀ σ', (∀ j ∈ rd, σ' j = lkB σ j) → pieceS σ' (evO (lk E) x) = pieceS (lkB σ) (evO (lk E) x) ∧ σ' i = lkB σ i ∧ srcS σ' (evO (lk E) y) = srcS (lkB σ) (evO (lk E) y)) (hv : SV.d (.int .i64 (Nat.min src.length (hi - lo))) = v) (hr : splice rows lo (src.take (hi - lo)) = rows')
    (hE : setE E o.dst v = E') (hσ : putS σ i (some (.row T sz rows')) = σ') (hn : RX P ds os E' σ' nx (([i], rd) :: sk) K) : RX P ds (o :: os) E σ nx sk K := by
  subst hE hσ hv hr
  exact ⟨fun ops E0 σ0 nx0 hd => rg_copy hg ho hk hok hsize hx hb hy hl hrd (hn.run ops E0 σ0 nx0 hd)⟩
end

section
variable {P : Program} {n : Nat} {fx : List Nat} {Q : Exit → Env → Sto → Nat → Prop} {E E' : Env} {σ σ' : Sto} {nx nx' : Nat}
/-- A region; what follows is K. -/
theorem px_region {id : Nat} {l : List Oper} {ds : List (Option Nat)} (hds : l.map (·.dst) = ds) (h : ∀ K : Env → Sto → Nat → List Skel → Prop, (∀ E σ nx sk, Q .normal E σ nx → K E σ nx sk) → RX P ds l E σ nx [] K) : PW P n fx (.region id l.toArray false) Q E σ nx :=
  pw_region ((h _ (fun _ _ _ _ hq => ⟨fun h => (by cases h), hq⟩)).run _ _ _ _ hds)
theorem px_draw {id : Nat} {l : List Oper} {ds : List (Option Nat)} (hds : l.map (·.dst) = ds) (h : ∀ K : Env → Sto → Nat → List Skel → Prop, (∀ E σ nx sk, drawKeys l.toArray sk.reverse = true → Q .normal E σ nx → K E σ nx sk) → RX P ds l E σ nx [] K) : PW P n fx (.region id l.toArray true) Q E σ nx :=
  pw_region ((h _ (fun _ _ _ _ hk hq => ⟨fun _ => hk, hq⟩)).run _ _ _ _ hds)
theorem px_seq {x y : Code} (h : ∀ Q', (∀ E σ nx, PW P n fx y Q E σ nx → Q' .normal E σ nx) → (∀ e E σ nx, e ≠ .normal → Q e E σ nx → Q' e E σ nx) → PW P n fx x Q' E σ nx) : PW P n fx (.seq x y) Q E σ nx :=
  pw_seq (h _ (fun _ _ _ h => ⟨h⟩) (fun e _ _ _ hn hq => by cases e <;> first | exact absurd rfl hn | exact ⟨hq⟩))
theorem px_block {id : Nat} {x : Code} (h : ∀ Q', (∀ E σ nx, Q .normal E σ nx → Q' .normal E σ nx) → (∀ E σ nx, Q .normal E σ nx → Q' (.exit id) E σ nx) → (∀ E σ nx, Q .ret E σ nx → Q' .ret E σ nx) → (∀ id' E σ nx, id' ≠ id → Q (.exit id') E σ nx → Q' (.exit id') E σ nx) → PW P n fx x Q' E σ nx) : PW P n fx (.block id x) Q E σ nx :=
  pw_block (h _ (fun _ _ _ h => ⟨h⟩) (fun _ _ _ h => ⟨by simpa [blockQ0] using h⟩) (fun _ _ _ h => ⟨h⟩) (fun id' _ _ _ hne h => ⟨by simpa [blockQ0, hne] using h⟩))
/-- A loop's round. -/
theorem px_loop {α : Type} {c : Code} (FE : α → Env) (Fσ : α → Sto) (nxL : Nat) (I : α → Prop) (μ : α → Nat) (a0 : α) (h0 : I a0) (hw : WK fx E σ nx (FE a0) (Fσ a0) nxL)
    (round : ∀ s, I s → ∀ Q', (∀ s' E' σ' nx', I s' → μ s' < μ s → WK fx E' σ' nx' (FE s') (Fσ s') nxL → Q' .normal E' σ' nx') → (∀ e E σ nx, e ≠ .normal → Q e E σ nx → Q' e E σ nx) → PW P n fx c Q' (FE s) (Fσ s) nxL) : PW P n fx (.loop c) Q E σ nx :=
  pw_loop FE Fσ nxL I μ a0 h0 hw fun s hI => round s hI _ (fun s' _ _ _ h1 h2 h3 => ⟨s', h1, h2, h3⟩) (fun e _ _ _ hn hq => by cases e <;> first | exact absurd rfl hn | exact hq)
theorem WK.ren {fx : List Nat} {E2 : Env} {σ2 : Sto} {nx2 : Nat} (f : Ren) (h1 : wkE f nx2 (lkB σ) (lk E) E2) (h2 : wkσ f nx2 (lkB σ) σ2) (h3 : wkOK f nx2 fx σ2 = true) : WK fx E σ nx E2 σ2 nx2 := wk_ren f h1 h2 h3
/-- The end: what is given back is told. -/
theorem px_end {rv : List ResultVar} {r r' : SV} {R : Sto} {e : Exit} {nx2 : Nat} (he : e = .normal ∨ e = .ret) (hok : (rv.all fun v => (resE P (lkB σ) (lk E) v).ok) = true) (hr : resS (rv.map fun v => (resE P (lkB σ) (lk E) v).x) = r') (h : WK fx [(0, r')] σ nx [(0, r)] R nx2) : endQ P rv fx r R e E σ nx := by
  subst hr
  exact ⟨he, hok, nx2, h⟩
end

/-! ### Steps without a name for what follows -/
section
variable {P : Program} {n : Nat} {fx : List Nat} {Q : Exit → Env → Sto → Nat → Prop} {E E' : Env} {σ σ' : Sto} {nx nx' : Nat} {y : Code}
theorem pt_region {id : Nat} {l : List Oper} (h : RX P (l.map (·.dst)) l E σ nx [] (fun E σ nx _ => Q .normal E σ nx)) : PW P n fx (.region id l.toArray false) Q E σ nx :=
  px_region rfl fun K hK => ⟨fun ops E0 σ0 nx0 hd es e1 e2 e3 => by
    obtain ⟨E', σ', nx', es', k1, k2, k3⟩ := h.run ops E0 σ0 nx0 hd es e1 e2 e3
    exact ⟨E', σ', nx', es', k1, k2, hK _ _ _ _ k3⟩⟩
theorem pt_draw {id : Nat} {l : List Oper} (h : RX P (l.map (·.dst)) l E σ nx [] (fun E σ nx sk => drawKeys l.toArray sk.reverse = true ∧ Q .normal E σ nx)) : PW P n fx (.region id l.toArray true) Q E σ nx :=
  px_draw rfl fun K hK => ⟨fun ops E0 σ0 nx0 hd es e1 e2 e3 => by
    obtain ⟨E', σ', nx', es', k1, k2, k3, k4⟩ := h.run ops E0 σ0 nx0 hd es e1 e2 e3
    exact ⟨E', σ', nx', es', k1, k2, hK _ _ _ _ k3 k4⟩⟩
theorem thenQ_n (h : PW P n fx y Q E σ nx) : thenQ P n fx y Q .normal E σ nx := ⟨h⟩
theorem thenQ_e {i : Nat} (h : Q (.exit i) E σ nx) : thenQ P n fx y Q (.exit i) E σ nx := ⟨h⟩
theorem thenQ_r (h : Q .ret E σ nx) : thenQ P n fx y Q .ret E σ nx := ⟨h⟩
theorem blockQ_n {i : Nat} (h : Q .normal E σ nx) : blockQ i Q .normal E σ nx := ⟨h⟩
theorem blockQ_r {i : Nat} (h : Q .ret E σ nx) : blockQ i Q .ret E σ nx := ⟨h⟩
theorem blockQ_e {i : Nat} (h : Q .normal E σ nx) : blockQ i Q (.exit i) E σ nx := ⟨by simpa [blockQ0] using h⟩
theorem blockQ_x {i j : Nat} (hn : (j == i) = false) (h : Q (.exit j) E σ nx) : blockQ i Q (.exit j) E σ nx := by
  have : ¬ j = i := by simpa using hn
  exact ⟨by simpa [blockQ0, this] using h⟩
/-- What is to be shown at a round's end. -/
def loopQ0 {α : Type} (fx : List Nat) (FE : α → Env) (Fσ : α → Sto) (nxL : Nat) (I : α → Prop) (μ : α → Nat) (s : α) (Q : Exit → Env → Sto → Nat → Prop) : Exit → Env → Sto → Nat → Prop
  | .normal => fun E' σ' nx' => ∃ s', I s' ∧ μ s' < μ s ∧ WK fx E' σ' nx' (FE s') (Fσ s') nxL
  | e => Q e
structure loopQ {α : Type} (fx : List Nat) (FE : α → Env) (Fσ : α → Sto) (nxL : Nat) (I : α → Prop) (μ : α → Nat) (s : α) (Q : Exit → Env → Sto → Nat → Prop) (e : Exit) (E : Env) (σ : Sto) (nx : Nat) : Prop where
  run : loopQ0 fx FE Fσ nxL I μ s Q e E σ nx
theorem pt_loop {α : Type} {c : Code} (FE : α → Env) (Fσ : α → Sto) (nxL : Nat) (I : α → Prop) (μ : α → Nat) (a0 : α) (h0 : I a0) (hw : WK fx E σ nx (FE a0) (Fσ a0) nxL)
    (round : ∀ s, I s → PW P n fx c (loopQ fx FE Fσ nxL I μ s Q) (FE s) (Fσ s) nxL) : PW P n fx (.loop c) Q E σ nx :=
  pw_loop FE Fσ nxL I μ a0 h0 hw fun s hI => pw_mono (round s hI) fun e E σ nx h => by have h := h.run; cases e <;> exact h
section
variable {α : Type} {FE : α → Env} {Fσ : α → Sto} {nxL : Nat} {I : α → Prop} {μ : α → Nat} {s : α}
theorem loopQ_n (s' : α) (h1 : I s') (h2 : μ s' < μ s) (h3 : WK fx E σ nx (FE s') (Fσ s') nxL) : loopQ fx FE Fσ nxL I μ s Q .normal E σ nx := ⟨s', h1, h2, h3⟩
theorem loopQ_e {i : Nat} (h : Q (.exit i) E σ nx) : loopQ fx FE Fσ nxL I μ s Q (.exit i) E σ nx := ⟨h⟩
theorem loopQ_r (h : Q .ret E σ nx) : loopQ fx FE Fσ nxL I μ s Q .ret E σ nx := ⟨h⟩
end
theorem pt_cond {c : Operand} {x : Code} {b : Bool} (hc : ∀ φ : SV → Prop, φ (.d (.bool b)) → φ (evO (lk E) c)) (ht : b = true → PW P n fx x Q E σ nx) (hf : b = false → PW P n fx y Q E σ nx) : PW P n fx (.cond c x y) Q E σ nx :=
  pw_cond (hc (fun v => v = .d (.bool b)) rfl) ht hf
/-- The end. -/
theorem pt_end {rv : List ResultVar} {r : SV} {R : Sto} {e : Exit} (f : Ren) (he : e = .normal ∨ e = .ret) (hok : (rv.all fun v => (resE P (lkB σ) (lk E) v).ok) = true)
    (h1 : wkS f 1000 (lkB σ) r (resS (rv.map fun v => (resE P (lkB σ) (lk E) v).x))) (h2 : wkσ f 1000 (lkB σ) R) (h3 : wkOK f 1000 fx R = true) : endQ P rv fx r R e E σ nx :=
  ⟨he, hok, 1000, wk_ren f (by simp only [wkE, lk, if_true]; exact ⟨h1, trivial⟩) h2 h3⟩
end

/-! ### Lists of rows that stand for typed lists -/
theorem getD_map {α : Type} (f : α → List PV) (l : List α) (i : Nat) (d : α) (h : i < l.length) : (l.map f).getD i [] = f (l.getD i d) := by
  simp [List.getD_eq_getElem?_getD, h]
theorem pick_and (b : Bool) (x y : SV) : (if b = true then (if b = true then x else .tup []) else y) = if b = true then x else y := by cases b <;> rfl
theorem pick_or (b : Bool) (x y : SV) : (if b = true then x else (if b = false then y else .tup [])) = if b = true then x else y := by cases b <;> rfl
theorem pick_bool (b p q : Bool) : (if b = true then SV.d (.bool p) else SV.d (.bool q)) = .d (.bool (if b = true then p else q)) := by cases b <;> rfl
theorem bool_and (b p : Bool) : (if b = true then p else false) = (b && p) := by cases b <;> rfl
attribute [simp] stepE stepG stepC stepCG callR argsOf argS lendS lendL handL handS lentLs lentA lentS idsS idsL inS inL rowB iceB handOK handW frzW newW shS shL frz isDat opE valR badR unE convE intE datF frzL List.isNils binS cmpE binE loadE storeE faddrE indexE lenE appE mmE partsB partsO buildE bslE makeE bndE sliceOf sliceE fieldE allocE boxE pickE extrE ncE biE callE istrE ownsC cellsS lentL oneB ownOK splice datS chop lenS rowsS TK.agg fillS
attribute [simp] evO cst lk lkB setE putS setW bump E0l σ0l fxl resE resS wkE wkS wkL wkB wkσ mapF lkF eqB eqs cmpB wkOK mapK distB IntKind.bits pick_and pick_or pick_bool bool_and
theorem bool_or (b p : Bool) : (if b = true then true else p) = (b || p) := by cases b <;> rfl
end Go.Proofs.Ytikfkipalifohaa.A
