/- The layer, part 9: regions, in the text's order and in any. -/
import Derived.Test.YtikfkipalifohaaA8
namespace Go.Proofs.Ytikfkipalifohaa.A
open Go Go.RowKit

/-- What a region's operation does, its guard seen to. -/
def Goes (L : Nat → Prop) (E : Nat → SV) (σ : Nat → Option Blk) (w0 : World) (X : Nat → Prop) (D0 : Base) (n : Nat) : Act → World → Prop :=
  fun a w => a.tmps.size = n ∧ St w0 X D0 L E σ a w
def No : Exit → Act → World → Prop := fun _ _ _ => False
def RSem (P : Program) (ops : Array Oper) (o : Oper) (L : Nat → Prop) (E : Nat → SV) (σ : Nat → Option Blk) (x : SV) (wr : Sto) (m : List Nat) : Prop :=
  ∀ w0 X D0 a w, St w0 X D0 L E σ a w → (∀ d, o.dst = some d → d < a.tmps.size) →
    if Region.wanted o (yielded ops a.tmps) then o.wp P a w (Goes (fun i => L i ∨ i ∈ m) (upd E o.dst x) (updB σ wr) w0 X D0 a.tmps.size) No
    else Goes (fun i => L i ∨ i ∈ m) (upd E o.dst x) (updB σ wr) w0 X D0 a.tmps.size (a.put o.dst undef) w

section
variable {P : Program} {ops : Array Oper} {o : Oper} {L : Nat → Prop} {E : Nat → SV} {σ : Nat → Option Blk} {x : SV} {wr : Sto} {m : List Nat}
theorem rsem_plain (hg : o.guard = none) (h : OpSem P o L E σ x wr m) : RSem P ops o L E σ x wr m := by
  intro w0 X D0 a w hs hd
  rw [if_pos (by simp [Region.wanted, hg])]
  exact h w0 X D0 a w hs hd
theorem yielded_of {w0 w : World} {X : Nat → Prop} {D0 : Base} {a : Act} (hs : St w0 X D0 L E σ a w) {j t : Nat} {b : Bool} (hj : (ops[j]?).bind (·.dst) = some t) (hE : E t = .d (.bool b)) : yielded ops a.tmps j = some b := by
  obtain ⟨D, ρ, hs⟩ := hs
  have h := hs.slots t
  rw [hE] at h
  simp only [SRep, Rep] at h
  by_cases hlt : t < a.tmps.size
  · simp only [Array.getD_eq_getD_getElem?, Array.getElem?_eq_getElem hlt, Option.getD_some] at h
    simp [yielded, hj, hlt, h]
  · simp [hlt, undef] at h
theorem yielded_off {w0 w : World} {X : Nat → Prop} {D0 : Base} {a : Act} (hs : St w0 X D0 L E σ a w) {j t : Nat} (hj : (ops[j]?).bind (·.dst) = some t) (hE : E t = .tup []) : yielded ops a.tmps j = none := by
  obtain ⟨D, ρ, hs⟩ := hs
  have h := hs.slots t
  rw [hE] at h
  simp only [SRep, SReps] at h
  obtain ⟨arr, h, _⟩ := h
  by_cases hlt : t < a.tmps.size
  · simp only [Array.getD_eq_getD_getElem?, Array.getElem?_eq_getElem hlt, Option.getD_some] at h
    simp [yielded, hj, hlt, h]
  · simp [yielded, hj, hlt]
/-- What a guard's slot holds: the operation is carried out just if G. -/
def guardOf (v : SV) (want : Bool) (G : Prop) : Prop := (G → v = .d (.bool want)) ∧ (¬ G → v = .d (.bool !want) ∨ v = .tup [])
/-- The guard: the operation is carried out just if the slot holds want. -/
theorem rsem_guard {j t : Nat} {want : Bool} {G : Prop} (hg : o.guard = some (j, want)) (hj : (ops[j]?).bind (·.dst) = some t) (hE : guardOf (E t) want G)
    (hon : G → OpSem P o L E σ x wr m) (hoff : ¬ G → x = .tup [] ∧ wr = [] ∧ m = []) : RSem P ops o L E σ x wr m := by
  intro w0 X D0 a w hs hd
  by_cases hb : G
  · have hy := yielded_of hs hj (hE.1 hb)
    rw [if_pos (by simp [Region.wanted, hg, hy])]
    exact hon hb w0 X D0 a w hs hd
  · obtain ⟨rfl, rfl, rfl⟩ := hoff hb
    have hn : Region.wanted o (yielded ops a.tmps) = false := by
      rcases hE.2 hb with h | h
      · have hy := yielded_of hs hj h
        simp [Region.wanted, hg, hy]
      · have hy := yielded_off hs hj h
        simp [Region.wanted, hg, hy]
    rw [if_neg (by simp [hn])]
    obtain ⟨D, ρ, hs⟩ := hs
    exact ⟨put_size _ _ _, D, ρ, (hs.put o.dst hd (by simp [SRep, SReps, undef])).more fun i hi => .inl hi⟩
theorem guardOf_eq {v : SV} {want b : Bool} (h : v = .d (.bool b)) : guardOf v want (b = want) := by
  refine ⟨fun e => by rw [h, e], fun e => .inl ?_⟩
  rw [h]
  cases b <;> cases want <;> simp_all
theorem guardOf_if {v : SV} {want b : Bool} {G : Prop} [Decidable G] (h : v = if G then .d (.bool b) else .tup []) : guardOf v want (G ∧ b = want) := by
  refine ⟨fun e => by rw [h, if_pos e.1, e.2], fun e => ?_⟩
  by_cases hG : G
  · rw [if_pos hG] at h
    refine .inl ?_
    rw [h]
    cases b <;> cases want <;> simp_all
  · rw [if_neg hG] at h
    exact .inr h
end

/-- One operation's doing: its value, what it writes, the numbers that it gives away, the numbers that it reads. -/
structure Ent where
  x : SV
  wr : Sto
  m : List Nat
  rd : List Nat
/-- .. in whatever state in which what it looks at is the same. -/
def OpL (P : Program) (ops : Array Oper) (o : Oper) (E : Nat → SV) (σ : Nat → Option Blk) (e : Ent) : Prop :=
  ∀ L' E' σ', (∀ t ∈ o.looksAt ops, E' t = E t) → (∀ i ∈ e.rd, σ' i = σ i) → (∀ i ∈ e.m, ¬ L' i) → RSem P ops o L' E' σ' e.x e.wr e.m

section
variable {P : Program} {ops : Array Oper}
/-- Behind the first k operations of those that are listed. -/
def apE (ops : Array Oper) (es : List Ent) (ls : Nat → Bool) (E : Nat → SV) : Nat → Nat → SV
  | 0 => E
  | k + 1 => match ops[k]?, es[k]? with
    | some o, some e => if ls k then upd (apE ops es ls E k) o.dst e.x else apE ops es ls E k
    | _, _ => apE ops es ls E k
def apB (es : List Ent) (ls : Nat → Bool) (σ : Nat → Option Blk) : Nat → Nat → Option Blk
  | 0 => σ
  | k + 1 => match es[k]? with
    | some e => if ls k then updB (apB es ls σ k) e.wr else apB es ls σ k
    | none => apB es ls σ k
def apL (es : List Ent) (ls : Nat → Bool) (L : Nat → Prop) (k : Nat) : Nat → Prop := fun q => L q ∨ ∃ i e, i < k ∧ es[i]? = some e ∧ ls i = true ∧ q ∈ e.m
/-- A region gone through in the text's order. -/
structure Run (P : Program) (ops : Array Oper) (L : Nat → Prop) (E : Nat → SV) (σ : Nat → Option Blk) (es : List Ent) : Prop where
  len : es.length = ops.size
  op : ∀ k o e, ops[k]? = some o → es[k]? = some e → OpL P ops o (apE ops es (fun _ => true) E k) (apB es (fun _ => true) σ k) e
  new : ∀ (k : Nat) (e : Ent), es[k]? = some e → ∀ q ∈ e.m, ¬ L q ∧ ∀ (j : Nat) (e' : Ent), es[j]? = some e' → j ≠ k → q ∉ e'.m
def sizesOK (ops : Array Oper) (n : Nat) : Prop := ∀ (k : Nat) (o : Oper) (d : Nat), ops[k]? = some o → o.dst = some d → d < n

theorem apL_all {es : List Ent} {L : Nat → Prop} {k : Nat} {e : Ent} (he : es[k]? = some e) : (fun i => apL es (fun _ => true) L k i ∨ i ∈ e.m) = apL es (fun _ => true) L (k + 1) := by
  funext q
  simp only [apL, eq_iff_iff]
  constructor
  · rintro ((h | ⟨i, e', h1, h2, h3, h4⟩) | h)
    · exact .inl h
    · exact .inr ⟨i, e', by omega, h2, h3, h4⟩
    · exact .inr ⟨k, e, by omega, he, trivial, h⟩
  · rintro (h | ⟨i, e', h1, h2, h3, h4⟩)
    · exact .inl (.inl h)
    · by_cases hik : i = k
      · subst hik
        rw [he] at h2
        injection h2 with h2
        subst h2
        exact .inr h4
      · exact .inl (.inr ⟨i, e', by omega, h2, h3, h4⟩)

/-- In the text's order. -/
theorem run_text {L : Nat → Prop} {E : Nat → SV} {σ : Nat → Option Blk} {es : List Ent} (hr : Run P ops L E σ es) {w0 : World} {X : Nat → Prop} {D0 : Base} {Q : Exit → Act → World → Prop} {n : Nat} (hn : sizesOK ops n)
    (hQ : ∀ a w, a.tmps.size = n → St w0 X D0 (apL es (fun _ => true) L ops.size) (apE ops es (fun _ => true) E ops.size) (apB es (fun _ => true) σ ops.size) a w → Q .normal a w) :
    ∀ (d k : Nat), k + d = ops.size → ∀ a w, a.tmps.size = n → St w0 X D0 (apL es (fun _ => true) L k) (apE ops es (fun _ => true) E k) (apB es (fun _ => true) σ k) a w → wpOps P ops Q (List.range' k d) a w
  | 0, k, hk, a, w, ha, hs => by
    simp only [List.range'_zero, wpOps]
    have : k = ops.size := by omega
    subst this
    exact hQ a w ha hs
  | d + 1, k, hk, a, w, ha, hs => by
    have hlt : k < ops.size := by omega
    have hle : k < es.length := by rw [hr.len]; exact hlt
    have ho := Array.getElem?_eq_getElem hlt
    have he := List.getElem?_eq_getElem hle
    have hsem := hr.op k _ _ ho he (apL es (fun _ => true) L k) _ _ (fun _ _ => rfl) (fun _ _ => rfl) (fun q hq hL => by
      obtain ⟨h1, h2⟩ := hr.new k _ he q hq
      rcases hL with hL | ⟨i, e', h3, h4, _, h5⟩
      · exact h1 hL
      · exact h2 i e' h4 (by omega) h5) w0 X D0 a w hs (fun dd hd => by rw [ha]; exact hn k _ dd ho hd)
    rw [List.range'_succ, wpOps_cons]
    unfold wpOp
    simp only [ho]
    have hstep : ∀ a' w', Goes (fun i => apL es (fun _ => true) L k i ∨ i ∈ es[k].m) (upd (apE ops es (fun _ => true) E k) ops[k].dst es[k].x) (updB (apB es (fun _ => true) σ k) es[k].wr) w0 X D0 a.tmps.size a' w' → wpOps P ops Q (List.range' (k + 1) d) a' w' := by
      rintro a' w' ⟨h1, h2⟩
      rw [apL_all he] at h2
      have eE : apE ops es (fun _ => true) E (k + 1) = upd (apE ops es (fun _ => true) E k) ops[k].dst es[k].x := by simp [apE, ho, he]
      have eB : apB es (fun _ => true) σ (k + 1) = updB (apB es (fun _ => true) σ k) es[k].wr := by simp [apB, he]
      rw [← eE, ← eB] at h2
      exact run_text hr hn hQ d (k + 1) (by omega) a' w' (h1.trans ha) h2
    by_cases hw : Region.wanted ops[k] (yielded ops a.tmps) = true
    · rw [if_pos hw] at hsem ⊢
      refine .inl ?_
      have := Oper.wp_mono (Q := No) hstep hsem
      unfold Oper.wp at this ⊢
      generalize (execOp a.eval ops[k]).run P w = res at this ⊢
      cases res with
      | ok nx w' =>
        cases nx <;> simp only [Oper.upon] at this ⊢ <;> first
          | exact this
          | exact Calls.mono this (fun e w'' he' => by cases e <;> first | exact he' | exact he'.elim | (obtain ⟨_, _, hf⟩ := he'; exact hf.elim))
      | halt x w' => cases x <;> simp only [Oper.upon] at this ⊢ <;> exact this.elim
    · rw [if_neg hw] at hsem ⊢
      exact hstep _ _ hsem
end
end Go.Proofs.Ytikfkipalifohaa.A
