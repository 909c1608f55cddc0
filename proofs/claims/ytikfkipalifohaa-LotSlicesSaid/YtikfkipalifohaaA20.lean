/- The layer, part 20: pieces of own rows, copied; the end of a function that gives back one own row. -/
import Derived.Test.YtikfkipalifohaaA19
namespace Go.Proofs.Ytikfkipalifohaa.A
open Go Go.RowKit

section
variable {P : Program} {ds : List (Option Nat)} {K : Env → Sto → Nat → List Skel → Prop} {os : List Oper} {E E' : Env} {σ σ' : Sto} {nx nx' : Nat} {sk : List Skel} {o : Oper}
theorem rt_view {x : Operand} {t e : TypeId} {lo hi : Option Operand} {i sz : Nat} {T : TypeId} {rows : List (List PV)} {l h : Int} {dst : Option Nat} {ty : TypeId} {pos : String} {after : Array Edge} (hx : ∀ φ : SV → Prop, φ (.own i) → φ (evO (lk E) x)) (hk : ∀ φ : TK → Prop, φ (.slice e) → φ (ti P t).kind)
    (hb : ∀ φ : Option Blk → Prop, φ (some (.row T sz rows)) → φ (lkB σ i)) (hs : ∀ φ : Bool → Nat → Prop, φ true sz → φ (ti P e).ok (ti P e).size) (hl : ∀ φ : Option Int → Prop, φ (some l) → φ (bndE (evO (lk E)) 0 lo)) (hh : ∀ φ : Option Int → Prop, φ (some h) → φ (bndE (evO (lk E)) rows.length hi))
    (h0 : 0 ≤ l ∧ l < h ∧ h ≤ rows.length) (hE : ∀ φ : Env → Prop, φ E' → φ (setE E dst (.view i l.toNat h.toNat))) (hn : RX P ds os E' σ nx (([], [i]) :: sk) K) : RX P ds (⟨dst, .slice t x lo hi none, ty, pos, after, none⟩ :: os) E σ nx sk K := by
  have hs' := hs (fun a b => a = true ∧ b = sz) ⟨rfl, rfl⟩
  exact rx_view rfl rfl (hk (fun v => v = .slice e) rfl) hs'.1 (hx (fun v => v = .own i) rfl) (hb (fun v => v = some (.row T sz rows)) rfl) hs'.2 (hl (fun v => v = some l) rfl) (hh (fun v => v = some h) rfl) h0.1 h0.2.1 h0.2.2 (hE (fun v => v = E') rfl) hn
def pieceI : SV → Option Nat
  | .own i => some i
  | .view i _ _ => some i
  | _ => none
def pieceF (n : Nat) : SV → Option (Nat × Nat)
  | .own _ => some (0, n)
  | .view _ lo hi => some (lo, hi)
  | _ => none
def srcF (i : Nat) (rows : List (List PV)) : SV → Option (List (List PV))
  | .d (.list r) => some r
  | .nils => some []
  | .own j => if j = i then some rows else none
  | .view j lo hi => if j = i then some ((rows.take hi).drop lo) else none
  | _ => none
theorem rt_copy {x y : Operand} {t t' e : TypeId} {i lo hi sz : Nat} {T : TypeId} {rows src : List (List PV)} {X Y : SV} {dst : Option Nat} {ty : TypeId} {pos : String} {after : Array Edge} (hx : ∀ φ : SV → Prop, φ X → φ (evO (lk E) x)) (hi' : pieceI X = some i) (hb : ∀ φ : Option Blk → Prop, φ (some (.row T sz rows)) → φ (lkB σ i)) (hp : pieceF rows.length X = some (lo, hi))
    (hk : ∀ φ : TK → Prop, φ (.slice e) → φ (ti P t).kind) (hs : ∀ φ : Bool → Nat → Prop, φ true sz → φ (ti P e).ok (ti P e).size) (hy : ∀ φ : SV → Prop, φ Y → φ (evO (lk E) y)) (hsrc : srcF i rows Y = some src) (hl : ∀ r ∈ src, r.length = sz)
    (hE : ∀ φ : Env → Sto → Prop, φ E' σ' → φ (setE E dst (.d (.int .i64 (Nat.min src.length (hi - lo))))) (putS σ i (some (.row T sz (splice rows lo (src.take (hi - lo))))))) (hn : RX P ds os E' σ' nx (([i], [i]) :: sk) K) :
    RX P ds (⟨dst, .call { callee := .builtin .copy, args := #[x, y], argTypes := #[t, t'] }, ty, pos, after, none⟩ :: os) E σ nx sk K := by
  have hs' := hs (fun a b => a = true ∧ b = sz) ⟨rfl, rfl⟩
  have ex := hx (fun v => v = X) rfl
  have ey := hy (fun v => v = Y) rfl
  have eb := hb (fun v => v = some (.row T sz rows)) rfl
  have hE' := hE (fun a b => a = E' ∧ b = σ') ⟨rfl, rfl⟩
  have k1 : ∀ S : Nat → Option Blk, S i = some (.row T sz rows) → pieceS S X = some (i, lo, hi) := by
    intro S hS
    cases X <;> simp only [pieceI, Option.some.injEq, reduceCtorEq] at hi' <;> subst hi' <;> simp only [pieceF, Option.some.injEq, Prod.mk.injEq] at hp <;> simp [pieceS, hS, hp]
  have k2 : ∀ S : Nat → Option Blk, S i = some (.row T sz rows) → srcS S Y = some src := by
    intro S hS
    unfold srcF at hsrc
    split at hsrc
    · simpa [srcS, rowsS] using hsrc
    · simpa [srcS, rowsS] using hsrc
    · split at hsrc
      · rename_i j h; subst h; simpa [srcS, rowsS, hS] using hsrc
      · cases hsrc
    · split at hsrc
      · rename_i j _ _ h; subst h; simpa [srcS, hS] using hsrc
      · cases hsrc
    · cases hsrc
  refine rx_copy (rd := [i]) (v := _) (rows' := _) rfl rfl (hk (fun v => v = .slice e) rfl) hs'.1 hs'.2 (by rw [ex]; exact k1 _ eb) eb (by rw [ey]; exact k2 _ eb) hl (fun S hS => ?_) rfl rfl hE'.1 hE'.2 hn
  have hS' := (hS i (by simp)).trans eb
  rw [ex, ey, k1 _ hS', k1 _ eb, k2 _ hS', k2 _ eb]
  exact ⟨rfl, hS i (by simp), rfl⟩
end

/-! ### The end of a call that was walked by other means -/
/-- What came in for good: its block. -/
theorem fresh_in {w : World} {X : Nat → Prop} {d0 : Nat → Prop} {ρ0 : Nat → Option (Option Nat)} {args : List SV} {B : Base} {L : Nat → Prop} {a : Act} (h : StD w X B L d0 ρ0 (E0 args) (σ0 args) a w) {j : Nat} {T : TypeId} {sz : Nat} {rows : List (List PV)} (hj : args[j]? = some (.fresh T sz rows)) :
    (∀ r ∈ rows, r.length = sz) ∧ ((rows = [] ∧ a.tmps.getD j undef = .slice none 0 0) ∨ ∃ g cap arr, ρ0 j = some (some g) ∧ a.tmps.getD j undef = .slice (some ⟨g, 0, none⟩) rows.length cap ∧ w.heap[g]? = some (.cells arr T (0, 0)) ∧ arr.size = cap * sz ∧ 0 < sz ∧ rows.length ≤ cap ∧ cap ≤ maxLen ∧ RepRows w d0 ⟨g, 0, none⟩ sz rows 0 ∧ ¬ d0 g ∧ Mine w X g ∧ g < w.heap.size) := by
  have h1 := h.slots j
  have e1 : E0 args j = .own j := by simp [E0, hj]
  have e2 : σ0 args j = some (.row T sz rows) := by simp [σ0, hj]
  rw [e1] at h1
  simp only [SRep] at h1
  obtain ⟨r, hr, hO, _⟩ := h1
  have hb := h.blk j _ e2
  obtain ⟨r', h5, h6⟩ := hb
  rw [hr] at h5
  injection h5 with h5
  subst h5
  rcases hO _ _ _ e2 with ⟨rfl, hv⟩ | ⟨g, cap, arr, rfl, hv, hh, ha, hsz', hcm, hrl⟩
  · simp only at h6
    subst h6
    exact ⟨by simp, .inl ⟨rfl, hv⟩⟩
  · obtain ⟨arr', cap', k1, k2, k3, k4, k5, k6⟩ := h6
    rw [hh] at k1
    injection k1 with k1
    injection k1 with k1
    subst k1
    have ecap : cap = cap' := by rw [ha] at k2; exact Nat.eq_of_mul_eq_mul_right hsz' k2
    subst ecap
    obtain ⟨a1, a2, a3⟩ := h.apart j _ g e2 rfl hr
    exact ⟨hrl, .inr ⟨g, cap, arr, hr, hv, hh, ha, hsz', k4, k5, k6, a1, a2, a3⟩⟩
/-- One own row is given back. -/
theorem row_end {w w' : World} {X : Nat → Prop} {d0 : Nat → Prop} {ρ0 : Nat → Option (Option Nat)} {args : List SV} {B : Base} {L : Nat → Prop} {a : Act} (h : StD w X B L d0 ρ0 (E0 args) (σ0 args) a w) (hp : ∀ (j : Nat) cs, args[j]? ≠ some (.pbox cs)) (hk : Kept w w' X) (hd : ∀ k, d0 k → w'.heap[k]? = w.heap[k]?)
    {g cap sz : Nat} {T : TypeId} {rows : List (List PV)} {arr : Array Value} (hm : Mine w X g) (hnd : ¬ d0 g) (hh : w'.heap[g]? = some (.cells arr T (0, 0))) (ha : arr.size = cap * sz) (hsz : 0 < sz) (hcm : cap ≤ maxLen) (hl : rows.length ≤ cap) (hv : RowsV w' d0 sz rows (arr.toList.take (rows.length * sz))) :
    ∃ D ρ, StD w X ⟨d0, fixA args ρ0⟩ (fun _ => True) D ρ (Er (.own 0)) (lkB [(0, some (.row T sz rows))]) ⟨#[.slice (some ⟨g, 0, none⟩) rows.length cap], []⟩ w' := by
  have hfix : ∀ i r, fixA args ρ0 i = some r → False := by
    intro i r hi
    unfold fixA at hi
    split at hi
    · rename_i cs hcs; exact hp i cs hcs
    · cases hi
  have hone : ∀ i b, lkB [(0, some (Blk.row T sz rows))] i = some b → i = 0 ∧ b = .row T sz rows := by
    intro i b hi
    simp only [lkB] at hi
    split at hi
    · rename_i e; injection hi with hi; exact ⟨e.symm, hi.symm⟩
    · cases hi
  refine ⟨d0, fun i => if i = 0 then some (some g) else none, ⟨fun t => ?_, rfl, hk, fun k hk' => Nat.lt_of_lt_of_le (h.dlt k hk') hk.size, fun _ h => h, fun k h => .inl h, fun i r hi => (hfix i r hi).elim, fun _ _ _ => trivial, fun i b hb => ?_, fun i b g' hb _ hg => ?_, fun i j b c g' hb hc _ _ _ _ => ?_⟩⟩
  · by_cases ht : t = 0
    · subst ht
      simp only [Er, if_true, SRep]
      refine ⟨some g, by simp, fun T' sz' rows' hb => ?_, fun rows' hb => ?_⟩
      · simp only [lkB, if_true, Option.some.injEq, Blk.row.injEq] at hb
        obtain ⟨rfl, rfl, rfl⟩ := hb
        exact .inr ⟨g, cap, arr, rfl, by simp, hh, ha, hsz, hcm, hv.lens⟩
      · simp [lkB] at hb
    · simp [Er, ht, SRep]
  · obtain ⟨rfl, rfl⟩ := hone i b hb
    exact ⟨some g, by simp, RowIn.of_values hh ha hsz hl hcm hv rfl⟩
  · obtain ⟨rfl, rfl⟩ := hone i b hb
    simp at hg
    subst hg
    exact ⟨hnd, hm, heap_lt hh⟩
  · rw [(hone i b hb).1, (hone j c hc).1]
attribute [simp] pieceI pieceF srcF
end Go.Proofs.Ytikfkipalifohaa.A
