/- Known answers: runs on known arguments. -/
import Derived.Test.YtikfkipalifohaaI0
import Derived.Test.YtikfkipalifohaaI1
import Derived.Test.YtikfkipalifohaaA21
namespace Go.Proofs.Ytikfkipalifohaa
open Go Go.Proofs.Ytikfkipalifohaa.A
set_option maxRecDepth 100000
set_option maxHeartbeats 4000000
set_option linter.unusedSimpArgs false
set_option linter.unusedVariables false

def insO : List SV → Option (SV × Sto)
  | [.fresh T 1 rows, .d (.int .i64 i), .fresh T' 1 [r]] => if decide (T = 3) && decide (T' = 3) && decide (0 ≤ i) && decide (i ≤ rows.length) && decide (rows.length < 1000000000000) then some (.own 0, [(0, some (.row 3 1 (rows.take i.toNat ++ [r] ++ rows.drop i.toNat)))]) else none
  | _ => none
def repO : List SV → Option (SV × Sto)
  | [.d (.list [[.int .i64 y]]), .d (.int .i64 n)] => if decide (1 ≤ n) && decide (n ≤ 1000) then some (.own 0, [(0, some (.row 2 1 (List.replicate n.toNat [.int .i64 y])))]) else none
  | _ => none
def libO : Oracle := fun f args => if f = 82 then insO args else if f = 55 then repO args else if f = 53 then addO args else if f = 61 then subO args else none
def givO : Gives := fun f => if f = 82 then [0, 2] else []
theorem libO_ok (f : FuncId) (args : List SV) (r : SV) (R : Sto) (h : libO f args = some (r, R)) : FnOK Go.Proofs.Try.prog f args r R := by
  unfold libO at h
  split at h
  · rename_i hf
    subst hf
    unfold insO at h
    split at h
    · split at h
      · rename_i rows i T r0 hc
        simp only [Bool.and_eq_true, decide_eq_true_eq] at hc
        obtain ⟨⟨⟨⟨h1, h2⟩, h3⟩, h4⟩, h5⟩ := hc
        injection h with h
        injection h with h6 h7
        subst h1 h2 h6 h7
        obtain ⟨n, rfl⟩ : ∃ n : Nat, i = n := ⟨i.toNat, by omega⟩
        exact insert_ok _ rfl rows r0 n (by omega) h5
      · cases h
    · cases h
  · split at h
    · rename_i hf
      subst hf
      unfold repO at h
      split at h
      · split at h
        · rename_i y n hc
          simp only [Bool.and_eq_true, decide_eq_true_eq] at hc
          obtain ⟨h3, h4⟩ := hc
          injection h with h
          injection h with h6 h7
          subst h6 h7
          obtain ⟨n, rfl⟩ : ∃ k : Nat, n = k := ⟨n.toNat, by omega⟩
          exact repeat_ok y n (by omega) (by omega)
        · cases h
      · cases h
    · split at h
      · rename_i hf
        subst hf
        exact addO_ok (fn := Go.Proofs.Try.f53) (by kernel_rfl) (by kernel_rfl) (by kernel_rfl) (by kernel_rfl) (by kernel_rfl) h
      · split at h
        · rename_i hf
          subst hf
          exact subO_ok (fn := Go.Proofs.Try.f61) (by kernel_rfl) (by kernel_rfl) (by kernel_rfl) (by kernel_rfl) (by kernel_rfl) h
        · cases h
end Go.Proofs.Ytikfkipalifohaa
