/- The layer, part 21: arguments that are known. -/
import Derived.Test.YtikfkipalifohaaA20
namespace Go.Proofs.Ytikfkipalifohaa.A
open Go Go.RowKit

mutual
def sameP : PV → PV → Bool
  | .int k n, .int k' n' => decide (k = k') && decide (n = n')
  | .bool b, .bool b' => b == b'
  | .str s, .str s' => decide (s = s')
  | .fn f, .fn f' => decide (f = f')
  | .list r, .list r' => sameR r r'
  | _, _ => false
def sameR : List (List PV) → List (List PV) → Bool
  | [], [] => true
  | r :: rs, q :: qs => sameC r q && sameR rs qs
  | _, _ => false
def sameC : List PV → List PV → Bool
  | [], [] => true
  | p :: ps, q :: qs => sameP p q && sameC ps qs
  | _, _ => false
end
mutual
theorem sameP_eq : ∀ (p q : PV), sameP p q = true → p = q
  | .int k n, q, h => by
    cases q <;> simp only [sameP, Bool.and_eq_true, decide_eq_true_eq, Bool.false_eq_true] at h
    rw [h.1, h.2]
  | .bool b, q, h => by
    cases q <;> simp only [sameP, beq_iff_eq, Bool.false_eq_true] at h
    rw [h]
  | .str s, q, h => by
    cases q <;> simp only [sameP, decide_eq_true_eq, Bool.false_eq_true] at h
    rw [h]
  | .fn s, q, h => by
    cases q <;> simp only [sameP, decide_eq_true_eq, Bool.false_eq_true] at h
    rw [h]
  | .list r, q, h => by
    cases q <;> simp only [sameP, Bool.false_eq_true] at h
    rw [sameR_eq _ _ h]
theorem sameR_eq : ∀ (r q : List (List PV)), sameR r q = true → r = q
  | [], q, h => by cases q <;> simp only [sameR, Bool.false_eq_true] at h; rfl
  | r :: rs, q, h => by
    cases q <;> simp only [sameR, Bool.and_eq_true, Bool.false_eq_true] at h
    rw [sameC_eq _ _ h.1, sameR_eq _ _ h.2]
theorem sameC_eq : ∀ (r q : List PV), sameC r q = true → r = q
  | [], q, h => by cases q <;> simp only [sameC, Bool.false_eq_true] at h; rfl
  | r :: rs, q, h => by
    cases q <;> simp only [sameC, Bool.and_eq_true, Bool.false_eq_true] at h
    rw [sameP_eq _ _ h.1, sameC_eq _ _ h.2]
end
mutual
def sameS : SV → SV → Bool
  | .d p, .d q => sameP p q
  | .nils, .nils => true
  | .agg a, .agg b => sameL a b
  | .fresh T s r, .fresh T' s' r' => decide (T = T') && decide (s = s') && sameR r r'
  | _, _ => false
def sameL : List SV → List SV → Bool
  | [], [] => true
  | p :: ps, q :: qs => sameS p q && sameL ps qs
  | _, _ => false
end
mutual
theorem sameS_eq : ∀ (x y : SV), sameS x y = true → x = y
  | .d p, y, h => by
    cases y <;> simp only [sameS, Bool.false_eq_true] at h
    rw [sameP_eq _ _ h]
  | .nils, y, h => by
    cases y <;> simp only [sameS, Bool.false_eq_true] at h
    rfl
  | .agg a, y, h => by
    cases y <;> simp only [sameS, Bool.false_eq_true] at h
    rw [sameL_eq _ _ h]
  | .fresh T s r, y, h => by
    cases y <;> simp only [sameS, Bool.and_eq_true, decide_eq_true_eq, Bool.false_eq_true] at h
    rw [h.1.1, h.1.2, sameR_eq _ _ h.2]
  | .junk, y, h => by simp [sameS] at h
  | .tup _, y, h => by simp [sameS] at h
  | .own _, y, h => by simp [sameS] at h
  | .ptr _ _, y, h => by simp [sameS] at h
  | .elt _, y, h => by simp [sameS] at h
  | .oelt _ _ _, y, h => by simp [sameS] at h
  | .view _ _ _, y, h => by simp [sameS] at h
  | .pbox _, y, h => by simp [sameS] at h
  | .sbox _ _, y, h => by simp [sameS] at h
theorem sameL_eq : ∀ (x y : List SV), sameL x y = true → x = y
  | [], q, h => by cases q <;> simp only [sameL, Bool.false_eq_true] at h; rfl
  | r :: rs, q, h => by
    cases q <;> simp only [sameL, Bool.and_eq_true, Bool.false_eq_true] at h
    rw [sameS_eq _ _ h.1, sameL_eq _ _ h.2]
end
/-- An answer that is known, ahead of the others. -/
def knowO (f0 : FuncId) (args0 : List SV) (r0 : SV) (R0 : Sto) (lib : Oracle) : Oracle := fun f args => if f = f0 then (if sameL args args0 then some (r0, R0) else lib f args) else lib f args
theorem knowO_ok {P : Program} {f0 : FuncId} {args0 : List SV} {r0 : SV} {R0 : Sto} {lib : Oracle} (h0 : FnOK P f0 args0 r0 R0) (hl : ∀ f args r R, lib f args = some (r, R) → FnOK P f args r R) : ∀ f args r R, knowO f0 args0 r0 R0 lib f args = some (r, R) → FnOK P f args r R := by
  intro f args r R h
  unfold knowO at h
  split at h
  · rename_i hf
    subst hf
    split at h
    · rename_i hs
      injection h with h
      injection h with h1 h2
      subst h1 h2
      rw [sameL_eq _ _ hs]
      exact h0
    · exact hl _ _ _ _ h
  · exact hl _ _ _ _ h
end Go.Proofs.Ytikfkipalifohaa.A
