/- The layer, part 6: calls. -/
import Derived.Test.YtikfkipalifohaaA5
namespace Go.Proofs.Ytikfkipalifohaa.A
open Go Go.RowKit

/-! ### What a function's contract says -/
/-- A call's slots, its blocks, at its begin. -/
def E0 (args : List SV) (t : Nat) : SV :=
  match args[t]? with
  | some (.fresh _ _ _) => .own t
  | some (.pbox _) => .ptr t 0
  | some x => x
  | none => .junk
def σ0 (args : List SV) (i : Nat) : Option Blk :=
  match args[i]? with
  | some (.fresh T sz rows) => some (.row T sz rows)
  | some (.pbox cs) => some (.box cs)
  | _ => none
def Er (r : SV) (t : Nat) : SV := if t = 0 then r else .junk
def UponCall (P : Program) (res : Result Next) (K : Value → World → Prop) : Prop :=
  match res with
  | .ok (.value v) w => K v w
  | .ok (.enter f args) w => Calls P f args w fun e w' => ∃ v, e = .returned v ∧ K v w'
  | _ => False
/-- Whose addresses stay. -/
def fixA (args : List SV) (ρ0 : Nat → Option (Option Nat)) (i : Nat) : Option (Option Nat) :=
  match args[i]? with
  | some (.pbox _) => ρ0 i
  | _ => none
/-- The contract: with these arguments the function returns r; what is new, or was handed over, is told in S. -/
def FnOK (P : Program) (n : FuncId) (args : List SV) (r : SV) (S : Sto) : Prop :=
  ∀ w d0 X ρ0 (vs : Array Value), vs.size = args.length → StD w X ⟨d0, fixA args ρ0⟩ (fun i => i < args.length) d0 ρ0 (E0 args) (σ0 args) ⟨vs, []⟩ w →
    UponCall P ((callFunc n vs).run P w) fun v w' => ∃ D ρ, StD w X ⟨d0, fixA args ρ0⟩ (fun _ => True) D ρ (Er r) (lkB S) ⟨#[v], []⟩ w'

/-! ### Arguments -/
def lendL (σ : Nat → Option Blk) : SV → SV
  | .d p => .d p
  | .nils => .d (.list [])
  | .own i => match σ i with
    | some (.row _ _ rows) => .d (.list rows)
    | some (.ice rows) => .d (.list rows)
    | _ => .junk
  | _ => .junk
def lendS (σ : Nat → Option Blk) : SV → SV
  | .agg cs => .agg (cs.map (lendL σ))
  | x => lendL σ x
/-- The numbers that are lent. -/
def lentL : SV → List Nat
  | .own i => [i]
  | _ => []
def lentS : SV → List Nat
  | .agg cs => cs.flatMap lentL
  | x => lentL x
/-- An argument: lent, given away (b), or a variable's address. -/
def argS (σ : Nat → Option Blk) (b : Bool) : SV → SV
  | .own i => if b then (match σ i with | some (.row T sz rows) => .fresh T sz rows | _ => .junk) else lendL σ (.own i)
  | .ptr i 0 => match σ i with | some (.box cs) => .pbox (cs.map (lendL σ)) | _ => .junk
  | x => lendS σ x
/-- The number of a block that is handed over. -/
def handS (b : Bool) : SV → Option Nat
  | .own i => if b then some i else none
  | .ptr i 0 => some i
  | _ => none
def lentA (b : Bool) (x : SV) : List Nat := match handS b x with | some _ => [] | none => lentS x

section
variable {w : World} {D D' : Nat → Prop} {ρ : Nat → Option (Option Nat)} {σ : Nat → Option Blk}
theorem Same.refl (D : Nat → Prop) (w : World) : Same D w w := fun _ _ => rfl
theorem RepRows.dmono (hd : ∀ k, D k → D' k) {a : Addr} {sz : Nat} {rows : List (List PV)} {o : Nat} (h : RepRows w D a sz rows o) : RepRows w D' a sz rows o :=
  RepRows.of_get fun j r hj => by
    obtain ⟨h1, h2⟩ := h.get j r hj
    refine ⟨h1, RepCells.of_get fun q p hq => ?_⟩
    obtain ⟨v, h3, h4⟩ := h2.get q p hq
    exact ⟨v, h3, Rep.mono (Same.refl D w) hd p v h4⟩
/-- A slice of the call's own, as data, once its block is told among the data. -/
theorem own_data {w0 : World} {X : Nat → Prop} {D0 : Base} {L : Nat → Prop} {E : Nat → SV} {a : Act} (hs : StD w0 X D0 L D ρ E σ a w) (hd : ∀ k, D k → D' k) {i : Nat} {T : TypeId} {sz : Nat} {rows : List (List PV)} (hb : σ i = some (.row T sz rows)) (hg : ∀ g, ρ i = some (some g) → D' g) {v : Value} (h : SRep w D ρ σ (.own i) v) : Rep w D' (.list rows) v := by
  simp only [SRep] at h
  obtain ⟨r, hr, hO, _⟩ := h
  obtain ⟨r', h5, h6⟩ := hs.blk i _ hb
  rw [hr] at h5
  injection h5 with h5
  subst h5
  simp only [Rep]
  rcases hO _ _ _ hb with ⟨rfl, hv⟩ | ⟨g, cap, arr, rfl, hv, hh, ha, hsz', hcm, hrl⟩
  · simp only at h6
    exact .inl ⟨h6, _, _, hv⟩
  · obtain ⟨arr', cap', k1, k2, k3, k4, k5, k6⟩ := h6
    rw [hh] at k1
    injection k1 with k1
    injection k1 with k1
    subst k1
    have ecap : cap = cap' := by rw [ha] at k2; exact Nat.eq_of_mul_eq_mul_right hsz' k2
    subst ecap
    exact .inr ⟨⟨g, 0, none⟩, cap, sz, hv, k4, k5, rfl, hg g hr, k6.dmono hd⟩
theorem lendL_rep {w0 : World} {X : Nat → Prop} {D0 : Base} {L : Nat → Prop} {E : Nat → SV} {a : Act} (hs : StD w0 X D0 L D ρ E σ a w) (hd : ∀ k, D k → D' k) {x : SV} (hg : ∀ i ∈ lentL x, ∀ T sz rows, σ i = some (.row T sz rows) → ∀ g, ρ i = some (some g) → D' g) {ρ' : Nat → Option (Option Nat)} {σ' : Nat → Option Blk} {v : Value} (h : SRep w D ρ σ x v) : SRep w D' ρ' σ' (lendL σ x) v := by
  cases x <;> simp only [lendL] <;> try (simp only [SRep]; done)
  case d p => simp only [SRep] at h ⊢; exact Rep.mono (Same.refl D w) hd p v h
  case nils => simp only [SRep] at h ⊢; subst h; simp [Rep]
  case own i =>
    split
    · rename_i T sz rows hb
      simp only [SRep]
      exact own_data hs hd hb (hg i (by simp [lentL]) T sz rows hb) h
    · rename_i rows hb
      simp only [SRep] at h ⊢
      obtain ⟨r, _, _, hI⟩ := h
      exact Rep.mono (Same.refl D w) hd _ _ (hI rows hb)
    · simp only [SRep]
theorem lendLs_rep {w0 : World} {X : Nat → Prop} {D0 : Base} {L : Nat → Prop} {E : Nat → SV} {a : Act} (hs : StD w0 X D0 L D ρ E σ a w) (hd : ∀ k, D k → D' k) {ρ' : Nat → Option (Option Nat)} {σ' : Nat → Option Blk} : ∀ (cs : List SV) (vs : List Value), (∀ i ∈ cs.flatMap lentL, ∀ T sz rows, σ i = some (.row T sz rows) → ∀ g, ρ i = some (some g) → D' g) → SReps w D ρ σ cs vs → SReps w D' ρ' σ' (cs.map (lendL σ)) vs
  | [], vs, _, h => by simpa [SReps] using h
  | c :: cs, vs, hg, h => by
    simp only [SReps, List.map_cons] at h ⊢
    obtain ⟨v, vs', h1, h2, h3⟩ := h
    refine ⟨v, vs', h1, lendL_rep hs hd (fun i hi => hg i (by simp [hi])) h2, lendLs_rep hs hd cs vs' (fun i hi => hg i ?_) h3⟩
    simp only [List.flatMap_cons, List.mem_append]
    exact .inr hi
theorem lendS_rep {w0 : World} {X : Nat → Prop} {D0 : Base} {L : Nat → Prop} {E : Nat → SV} {a : Act} (hs : StD w0 X D0 L D ρ E σ a w) (hd : ∀ k, D k → D' k) {x : SV} (hg : ∀ i ∈ lentS x, ∀ T sz rows, σ i = some (.row T sz rows) → ∀ g, ρ i = some (some g) → D' g) {ρ' : Nat → Option (Option Nat)} {σ' : Nat → Option Blk} {v : Value} (h : SRep w D ρ σ x v) : SRep w D' ρ' σ' (lendS σ x) v := by
  cases x
  case agg cs =>
    simp only [lendS, SRep] at h ⊢
    obtain ⟨arr, h1, h2⟩ := h
    exact ⟨arr, h1, lendLs_rep hs hd cs _ hg h2⟩
  all_goals exact lendL_rep hs hd (by simpa only [lentS] using hg) h
/-- What is lent is data. -/
theorem lendS_plain (σ : Nat → Option Blk) (x : SV) : (∀ T sz rows, lendS σ x ≠ .fresh T sz rows) ∧ (∀ cs, lendS σ x ≠ .pbox cs) := by
  have key : ∀ x, (∀ T sz rows, lendL σ x ≠ .fresh T sz rows) ∧ (∀ cs, lendL σ x ≠ .pbox cs) := by
    intro x
    cases x <;> simp only [lendL] <;> try (constructor <;> intros <;> simp; done)
    case own i => split <;> constructor <;> intros <;> simp
  cases x
  case agg cs => simp only [lendS]; constructor <;> intros <;> simp
  all_goals (simp only [lendS]; exact key _)
end

/-! ### Results -/
mutual
def shS (n : Nat) : SV → SV
  | .own i => .own (n + i)
  | .agg cs => .agg (shL n cs)
  | .tup vs => .tup (shL n vs)
  | x => x
def shL (n : Nat) : List SV → List SV
  | [] => []
  | x :: xs => shS n x :: shL n xs
end
mutual
/-- Are all numbers in it among these? -/
def inS (N : List Nat) : SV → Bool
  | .own i => N.contains i
  | .agg cs => inL N cs
  | .tup vs => inL N vs
  | .d _ => true
  | .nils => true
  | .junk => true
  | _ => false
def inL (N : List Nat) : List SV → Bool
  | [] => true
  | x :: xs => inS N x && inL N xs
end
section
variable {w : World} {D : Nat → Prop} {ρ ρ' : Nat → Option (Option Nat)} {σ σ' : Nat → Option Blk} {n : Nat} {N : List Nat}
mutual
theorem shS_rep (h1 : ∀ i ∈ N, ∀ q, ρ i = some q → ρ' (n + i) = some q) (h2 : ∀ i ∈ N, σ' (n + i) = σ i) : ∀ (x : SV) (v : Value), inS N x = true → SRep w D ρ σ x v → SRep w D ρ' σ' (shS n x) v
  | .own i, v, hn, h => by
    simp only [inS, List.contains_eq_mem, decide_eq_true_eq] at hn
    simp only [SRep, shS] at h ⊢
    obtain ⟨r, k1, k2⟩ := h
    exact ⟨r, h1 i hn r k1, by rw [h2 i hn]; exact k2⟩
  | .agg cs, v, hn, h => by
    simp only [inS] at hn
    simp only [SRep, shS] at h ⊢
    obtain ⟨arr, k1, k2⟩ := h
    exact ⟨arr, k1, shL_rep h1 h2 cs _ hn k2⟩
  | .tup cs, v, hn, h => by
    simp only [inS] at hn
    simp only [SRep, shS] at h ⊢
    obtain ⟨arr, k1, k2⟩ := h
    exact ⟨arr, k1, shL_rep h1 h2 cs _ hn k2⟩
  | .d p, v, _, h => by simpa only [SRep, shS] using h
  | .nils, v, _, h => by simpa only [SRep, shS] using h
  | .junk, v, _, h => by simp only [SRep, shS]
  | .ptr _ _, v, hn, h => by simp [inS] at hn
  | .elt _, v, hn, h => by simp [inS] at hn
  | .oelt _ _ _, v, hn, h => by simp [inS] at hn
  | .view _ _ _, v, hn, h => by simp [inS] at hn
  | .fresh _ _ _, v, hn, h => by simp [inS] at hn
  | .pbox _, v, hn, h => by simp [inS] at hn
  | .sbox _ _, v, hn, h => by simp [inS] at hn
theorem shL_rep (h1 : ∀ i ∈ N, ∀ q, ρ i = some q → ρ' (n + i) = some q) (h2 : ∀ i ∈ N, σ' (n + i) = σ i) : ∀ (xs : List SV) (vs : List Value), inL N xs = true → SReps w D ρ σ xs vs → SReps w D ρ' σ' (shL n xs) vs
  | [], vs, _, h => by simpa only [SReps, shL] using h
  | x :: xs, vs, hn, h => by
    simp only [inL, Bool.and_eq_true] at hn
    simp only [SReps, shL] at h ⊢
    obtain ⟨v, vs', k1, k2, k3⟩ := h
    exact ⟨v, vs', k1, shS_rep h1 h2 x v hn.1 k2, shL_rep h1 h2 xs vs' hn.2 k3⟩
end
end
end Go.Proofs.Ytikfkipalifohaa.A
