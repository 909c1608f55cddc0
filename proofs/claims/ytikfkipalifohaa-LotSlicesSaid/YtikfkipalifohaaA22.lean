/- The layer, part 22: from a contract to a call of the program. -/
import Derived.Test.YtikfkipalifohaaA21
import Derived.Carry
namespace Go.Proofs.Ytikfkipalifohaa.A
open Go Go.RowKit

/-- A world's old blocks, as data. -/
def oldD (W : World) (k : Nat) : Prop := k < W.heap.size
/-- A function whose arguments are data, that gives true: called, it gives true, and what was there stays. -/
theorem calls_of_fn {P : Program} {f : FuncId} {fn : Func} {c : Code} {xs : List SV} {r : Value} {R : SV} (hf : P.funcs[f]? = some fn) (hb : fn.body = some c) (hname : (fn.name == "runtime.NumGoroutine") = false) (h : FnOK P f xs R []) (hR : ∀ w D ρ σ v, SRep w D ρ σ R v → v = r)
    (hx : ∀ (j : Nat) x, xs[j]? = some x → (∃ p, x = .d p) ∨ ∃ cs, x = .agg cs) (W : World) (vs : Array Value) (hs : SReps W (oldD W) (fun _ => none) (fun _ => none) xs vs.toList) :
    Calls P f vs W fun e W' => e = .returned r ∧ Below W.heap.size W W' := by
  have hlen := hs.length
  have hE : ∀ t, E0 xs t = xs.getD t .junk := by
    intro t
    unfold E0
    cases ht : xs[t]? with
    | none => simp [List.getD, ht]
    | some x => rcases hx t x ht with ⟨p, rfl⟩ | ⟨cs, rfl⟩ <;> simp [List.getD, ht]
  have hσ : ∀ t, σ0 xs t = none := by
    intro t
    unfold σ0
    cases ht : xs[t]? with
    | none => rfl
    | some x => rcases hx t x ht with ⟨p, rfl⟩ | ⟨cs, rfl⟩ <;> rfl
  have hσ' : σ0 xs = fun _ => none := funext hσ
  have hfix : ∀ i, fixA xs (fun _ => none) i = none := by
    intro i
    unfold fixA
    split <;> rfl
  have := h W (oldD W) (fun _ => False) (fun _ => none) vs (by simpa using hlen) ⟨fun t => ?_, rfl, ⟨rfl, rfl, rfl, Nat.le_refl _, fun _ _ _ => rfl⟩, fun _ h => h, fun _ h => h, fun _ h => .inl h, fun i r hi => ?_, fun i r hi => (by cases hi), fun i b hb => ?_, fun i b g hb => ?_, fun i j b c g hb => ?_⟩
  · rw [show (callFunc f vs).run P W = .ok (.enter f vs) W from ?_] at this
    · simp only [UponCall] at this
      refine this.mono ?_
      rintro e w' ⟨v, rfl, D, ρ, hst⟩
      have h0 := hst.slots 0
      simp only [Er, if_true] at h0
      have hv : v = r := by simpa using hR _ _ _ _ _ h0
      subst hv
      exact ⟨rfl, hst.kept.os, hst.kept.tape, hst.kept.output, hst.kept.size, fun k hk => hst.kept.block k hk id⟩
    · have hname' : ¬ fn.name = "runtime.NumGoroutine" := by simpa using hname
      simp [callFunc, run_program, hf, hname', hb]
  · rw [hE, hσ']
    cases ht : xs[t]? with
    | none => simp [List.getD, ht, SRep]
    | some x =>
      obtain ⟨v, hv, hr⟩ := hs.get t x ht
      have e1 : xs.getD t .junk = x := by simp [List.getD, ht]
      have e2 : vs.getD t undef = v := by
        rw [Array.getElem?_toList] at hv
        simp [Array.getD_eq_getD_getElem?, hv]
      rw [e1]
      show SRep W (oldD W) _ _ x (vs.getD t undef)
      rw [e2]
      exact hr
  · have hi' : fixA xs (fun _ => none) i = some r := hi
    rw [hfix i] at hi'
    cases hi'
  · rw [hσ] at hb; cases hb
  · rw [hσ] at hb; cases hb
  · rw [hσ] at hb; cases hb
/-- One argument, read behind the call. -/
theorem arg_back {H : Type} {enc : TypeId × Value → H} {P : Program} (hl : laidOutB P = true) {t : TypeId} (hr : P.readableRec t = true) (hrow : decide (t < P.types.size) = true) {W W' : World} {v : Value} {d : DataW H} {ps : List MemPlace} (h : DataW.Trod enc P W 0 (fun _ => true) true t v d ps) (hb : Below W.heap.size W W') :
    DataW.Trod enc P W' 0 (fun b => decide (b < W.heap.size)) true t v d ps :=
  Below.trod hl hr (of_decide_eq_true hrow) h hb (by obtain ⟨m, hm⟩ := h; exact DataW.trod_lt m _ _ _ hm)
end Go.Proofs.Ytikfkipalifohaa.A
