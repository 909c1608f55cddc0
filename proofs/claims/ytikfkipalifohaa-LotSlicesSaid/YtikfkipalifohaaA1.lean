/- The layer, part 1: what single operations do. -/
import Derived.Test.YtikfkipalifohaaA0
import Derived.Laws.Tables
import Derived.Great.BuildSlice
import Derived.WalkLawsBesides
namespace Go.Proofs.Ytikfkipalifohaa.A
open Go Go.RowKit

/-- A constant. -/
def cst : Value → SV
  | .int k n => .d (.int k n)
  | .bool b => .d (.bool b)
  | .string s => .d (.str s)
  | .slice none 0 0 => .nils
  | .func (.func f) ⟨[]⟩ ⟨[]⟩ => .d (.fn f)
  | _ => .junk

/-- What is known of a type. -/
inductive TK where
  | struct (fs : List (Nat × Nat))
  | slice (e : TypeId)
  | arr (n : Nat) (e : TypeId)
  | int (k : IntKind)
  | str
  | plain
  | other
structure TI where
  ok : Bool
  size : Nat
  bytes : Nat
  zero : List SV
  kind : TK
def ti (P : Program) (t : TypeId) : TI :=
  match P.info? t, P.underlying t with
  | some i, some d => { ok := i.zero.isSome, size := i.size, bytes := i.bytes, zero := ((i.zero.map fun z => z.cells.toList.map cst).getD []), kind := match d with
      | .struct fs => .struct (fs.toList.map fun f => (f.offset, P.cellsOf f.type))
      | .slice e => .slice e
      | .array n e => .arr n e
      | .int k => .int k
      | .string => .str
      | .bool | .pointer _ => .plain
      | _ => .other }
  | _, _ => ⟨false, 0, 0, [], .other⟩
def TK.agg : TK → Bool
  | .struct _ | .arr _ _ => true
  | _ => false

def evO (E : Nat → SV) : Operand → SV
  | .tmp t => E t
  | .const v => cst v
  | .func f => .d (.fn f)
  | .global _ => .junk

section
variable {w : World} {D : Nat → Prop} {ρ : Nat → Option (Option Nat)} {σ : Nat → Option Blk}
theorem cst_rep (v : Value) : SRep w D ρ σ (cst v) v := by
  unfold cst
  split <;> simp_all [SRep, Rep]
theorem evO_rep {w0 : World} {X : Nat → Prop} {D0 : Base} {L : Nat → Prop} {E : Nat → SV} {a : Act} (h : StD w0 X D0 L D ρ E σ a w) (x : Operand) : SRep w D ρ σ (evO E x) (a.eval x) := by
  cases x with
  | tmp t => exact h.slots t
  | const v => exact cst_rep v
  | global g => simp [evO, SRep]
  | func f => simp [evO, SRep, Rep, Act.eval]
end

def updB (σ : Nat → Option Blk) : Sto → Nat → Option Blk
  | [] => σ
  | (i, b) :: wr => fun j => if i = j then b else updB σ wr j

/-- What an operation does, in whatever state that is as told. -/
def OpSem (P : Program) (o : Oper) (L : Nat → Prop) (E : Nat → SV) (σ : Nat → Option Blk) (x : SV) (wr : Sto) (m : List Nat) : Prop :=
  ∀ w0 X D0 a w, St w0 X D0 L E σ a w → (∀ d, o.dst = some d → d < a.tmps.size) →
    o.wp P a w (fun a' w' => a'.tmps.size = a.tmps.size ∧ St w0 X D0 (fun i => L i ∨ i ∈ m) (upd E o.dst x) (updB σ wr) a' w') (fun _ _ _ => False)

theorem StD.more {w0 w : World} {X : Nat → Prop} {D0 : Base} {L L' D : Nat → Prop} {ρ : Nat → Option (Option Nat)} {E : Nat → SV} {σ : Nat → Option Blk} {a : Act} (h : StD w0 X D0 L D ρ E σ a w) (hl : ∀ i, L i → L' i) : StD w0 X D0 L' D ρ E σ a w :=
  { h with given := fun i r hr => hl i (h.given i r hr) }

/-- An operation that makes a value and leaves memory as it is. -/
theorem OpSem.pure {P : Program} {o : Oper} {L : Nat → Prop} {E : Nat → SV} {σ : Nat → Option Blk} {x : SV}
    (h : ∀ w0 X D0 D ρ a w, StD w0 X D0 L D ρ E σ a w → ∃ v, (execOp a.eval o).run P w = .ok (.value v) w ∧ SRep w D ρ σ x v) : OpSem P o L E σ x [] [] := by
  intro w0 X D0 a w ⟨D, ρ, hs⟩ hd
  obtain ⟨v, hr, hx⟩ := h _ _ _ _ _ _ _ hs
  unfold Oper.wp
  rw [hr]
  simp only [Oper.upon]
  exact ⟨put_size _ _ _, D, ρ, (hs.put o.dst hd hx).more fun i hi => .inl hi⟩

section
variable {P : Program} {o : Oper} {L : Nat → Prop} {E : Nat → SV} {σ : Nat → Option Blk}
theorem sem_move {x : Operand} (ho : o.op = .move x ∨ o.op = .assign x) : OpSem P o L E σ (evO E x) [] [] :=
  OpSem.pure fun _ _ _ _ _ a w hs => ⟨a.eval x, by rcases ho with ho | ho <;> simp [execOp, ho], evO_rep hs x⟩

theorem ite_rep {w : World} {D : Nat → Prop} {ρ : Nat → Option (Option Nat)} {b : Prop} [Decidable b] {x y : SV} {v : Value} (h1 : b → SRep w D ρ σ x v) (h2 : ¬ b → SRep w D ρ σ y v) : SRep w D ρ σ (if b then x else y) v := by
  by_cases h : b
  · rw [if_pos h]; exact h1 h
  · rw [if_neg h]; exact h2 h
theorem sem_pick {c x y : Operand} {b : Bool} (ho : o.op = .pick c x y) (hc : evO E c = .d (.bool b)) : OpSem P o L E σ (if b = true then evO E x else evO E y) [] [] :=
  OpSem.pure fun w0 X D0 D ρ a w hs => by
    have h1 := evO_rep hs c
    rw [hc] at h1
    simp only [SRep, Rep] at h1
    refine ⟨if b then a.eval x else a.eval y, by simp [execOp, ho, h1, asBool], ?_⟩
    cases b
    · exact evO_rep hs y
    · exact evO_rep hs x

theorem sem_not {x : Operand} {t : TypeId} {b : Bool} (ho : o.op = .unOp .not t x) (hx : evO E x = .d (.bool b)) : OpSem P o L E σ (.d (.bool !b)) [] [] :=
  OpSem.pure fun w0 X D0 D ρ a w hs => by
    have h1 := evO_rep hs x
    rw [hx] at h1
    simp only [SRep, Rep] at h1
    exact ⟨.bool !b, by simp [execOp, ho, h1, Op.unary], by simp [SRep, Rep]⟩
theorem sem_neg {x : Operand} {t : TypeId} {k : IntKind} {n : Int} (ho : o.op = .unOp .neg t x) (hx : evO E x = .d (.int k n)) : OpSem P o L E σ (.d (.int k (k.wrap (-n)))) [] [] :=
  OpSem.pure fun w0 X D0 D ρ a w hs => by
    have h1 := evO_rep hs x
    rw [hx] at h1
    simp only [SRep, Rep] at h1
    exact ⟨.int k (k.wrap (-n)), by simp [execOp, ho, h1, Op.unary, Op.intArith], by simp [SRep, Rep]⟩
theorem sem_convert {x : Operand} {s t : TypeId} {k k' : IntKind} {n : Int} (ho : o.op = .convert s t x) (hx : evO E x = .d (.int k n)) (hs : (ti P s).kind = .int k) (ht : (ti P t).kind = .int k') : OpSem P o L E σ (.d (.int k' (k'.wrap n))) [] [] :=
  OpSem.pure fun w0 X D0 D ρ a w hst => by
    have h1 := evO_rep hst x
    rw [hx] at h1
    simp only [SRep, Rep] at h1
    have hu : ∀ (t : TypeId) (k : IntKind), (ti P t).kind = .int k → P.underlying t = some (.int k) := by
      intro t k h
      unfold ti at h
      split at h
      · rename_i i d _ hd
        simp only at h
        split at h <;> simp_all
      · simp at h
    refine ⟨.int k' (k'.wrap n), ?_, by simp [SRep, Rep]⟩
    simp [execOp, ho, h1, convert, run_underlying (hu _ _ hs), run_underlying (hu _ _ ht), Conv.intToInt]

/-- A test or a sum of two numbers. -/
def binS (op : BinOp) (k : IntKind) (x y : Int) : Option SV :=
  match op with
  | .add => some (.d (.int k (k.wrap (x + y))))
  | .sub => some (.d (.int k (k.wrap (x - y))))
  | .mul => some (.d (.int k (k.wrap (x * y))))
  | .eql => some (.d (.bool (decide (x = y))))
  | .neq => some (.d (.bool (!decide (x = y))))
  | .lss => some (.d (.bool (decide (x < y))))
  | .leq => some (.d (.bool (decide (x ≤ y))))
  | .gtr => some (.d (.bool (decide (y < x))))
  | .geq => some (.d (.bool (decide (y ≤ x))))
  | .and => some (.d (.int k (bits .and k x y)))
  | .or => some (.d (.int k (bits .or k x y)))
  | .xor => some (.d (.int k (bits .xor k x y)))
  | _ => none
theorem sem_bin {op : BinOp} {t u : TypeId} {x y : Operand} {k : IntKind} {m n : Int} {r : SV} (ho : o.op = .binOp op t x y u) (hx : evO E x = .d (.int k m)) (hy : evO E y = .d (.int k n)) (hr : binS op k m n = some r) : OpSem P o L E σ r [] [] :=
  OpSem.pure fun w0 X D0 D ρ a w hs => by
    have h1 := evO_rep hs x
    have h2 := evO_rep hs y
    rw [hx] at h1
    rw [hy] at h2
    simp only [SRep, Rep] at h1 h2
    cases op <;> simp only [binS, Option.some.injEq, reduceCtorEq] at hr <;> subst hr <;>
      refine ⟨_, by simp only [execOp, ho, h1, h2, eqGuard_at_int, binOp_add, binOp_sub, binOp_mul, binOp_and, binOp_or, binOp_xor, binOp_eql, binOp_neq, binOp_lss, binOp_leq, binOp_gtr, binOp_geq, Op.intArith, intBits_and, intBits_or, intBits_xor, Sem.run_bind, Sem.run_pure, Result.andThen_ok]; rfl, ?_⟩ <;> simp only [SRep, Rep, bne] <;> rfl
end
end Go.Proofs.Ytikfkipalifohaa.A
