/- The layer, part 17: functions without a body. -/
import Derived.Test.YtikfkipalifohaaA16
import Derived.Laws.Externs
namespace Go.Proofs.Ytikfkipalifohaa.A
open Go Go.RowKit

section
variable {P : Program}
/-- A function without a body that gives a value. -/
theorem fn_extern {f : FuncId} {fn : Func} {e : Array Value → Sem Value} {args : List PV} {r : SV} (hf : P.funcs[f]? = some fn) (hname : (fn.name == "runtime.NumGoroutine") = false) (hb : fn.body.isNone = true) (hn : Extern.findNext fn = none) (he : Extern.find fn = some e)
    (h : ∀ w D (vs : Array Value), vs.size = args.length → (∀ t p, args[t]? = some p → Rep w D p (vs.getD t undef)) → ∃ v, (e vs).run P w = .ok v w ∧ SRep w D (fun _ => none) (fun _ => none) r v) : FnOK P f (args.map .d) r [] := by
  intro w d0 X ρ0 vs hvs hs
  have hsz : vs.size = args.length := by simpa using hvs
  obtain ⟨v, h1, h2⟩ := h w d0 vs hsz (fun t p hp => by
    have := hs.slots t
    have e0 : E0 (args.map .d) t = .d p := by simp [E0, hp]
    rw [e0] at this
    simpa only [SRep] using this)
  rw [run_callFunc_extern hf hname hb hn he, h1]
  simp only [Result.andThen_ok, UponCall]
  refine ⟨d0, fun _ => none, ⟨fun t => ?_, rfl, hs.kept, hs.dlt, hs.dold, hs.dnew, fun i r hr => ?_, fun i r hr => (by cases hr), fun i b hb => (by simp [lkB] at hb), fun i b g hb => (by simp [lkB] at hb), fun i j b c g hb => (by simp [lkB] at hb)⟩⟩
  · simp only [Er]
    by_cases ht : t = 0
    · subst ht
      simp only [if_true]
      exact h2
    · rw [if_neg ht]
      simp [SRep]
  · simp only [fixA] at hr
    split at hr
    · rename_i cs hcs
      simp at hcs
    · cases hr
theorem fn_add64 {f : FuncId} {fn : Func} (hf : P.funcs[f]? = some fn) (hname : (fn.name == "runtime.NumGoroutine") = false) (hb : fn.body.isNone = true) (hn : Extern.findNext fn = none) (he : Extern.find fn = some add64Entry) {x y c : Int} (hx : 0 ≤ x) (hy : 0 ≤ y) (hc0 : 0 ≤ c) (hc : c ≤ 1) :
    FnOK P f [.d (.int .u64 x), .d (.int .u64 y), .d (.int .u64 c)] (.tup [.d (.int .u64 ((x + y + c) % 18446744073709551616)), .d (.int .u64 ((x + y + c) / 18446744073709551616))]) [] := by
  refine fn_extern (args := [.int .u64 x, .int .u64 y, .int .u64 c]) hf hname hb hn he fun w D vs hsz hv => ?_
  have hvs : vs = #[.int .u64 x, .int .u64 y, .int .u64 c] := by
    obtain ⟨l⟩ := vs
    have h0 := hv 0 _ rfl
    have h1 := hv 1 _ rfl
    have h2 := hv 2 _ rfl
    match l, hsz with
    | [a, b, c], _ => simp [Rep] at h0 h1 h2; simp [h0, h1, h2]
  subst hvs
  exact ⟨_, run_add64 x y c hx hy hc0 hc w, by simp [SRep, SReps, Rep]⟩
def sub64Entry : Array Value → Sem Value := fun args => do
  let (x, y, b) ← Extern.MathBitsCarry.three "Sub64" args
  pure (Extern.MathBitsCarry.pair ((x + Extern.MathBitsCarry.m64 - y - b) % Extern.MathBitsCarry.m64) (if x < y + b then 1 else 0))
theorem run_sub64 (x y c : Int) (hx : 0 ≤ x) (hy : 0 ≤ y) (hy2 : y < 18446744073709551616) (hc0 : 0 ≤ c) (hc : c ≤ 1) (w : World) :
    (sub64Entry #[.int .u64 x, .int .u64 y, .int .u64 c]).run P w = .ok (.tuple #[.int .u64 ((x - y - c) % 18446744073709551616), .int .u64 (if x < y + c then 1 else 0)]) w := by
  have key : ∀ k : Nat, k ≤ 1 → (sub64Entry #[.int .u64 x, .int .u64 y, .int .u64 (k : Int)]).run P w =
      .ok (Extern.MathBitsCarry.pair ((x.toNat + Extern.MathBitsCarry.m64 - y.toNat - k) % Extern.MathBitsCarry.m64) (if x.toNat < y.toNat + k then 1 else 0)) w := by
    intro k hk
    have : k = 0 ∨ k = 1 := by omega
    rcases this with rfl | rfl <;> rfl
  obtain ⟨k, rfl⟩ := Int.eq_ofNat_of_zero_le hc0
  rw [key k (by omega)]
  obtain ⟨X, rfl⟩ := Int.eq_ofNat_of_zero_le hx
  obtain ⟨Y, rfl⟩ := Int.eq_ofNat_of_zero_le hy
  simp only [Extern.MathBitsCarry.pair, Extern.MathBitsCarry.m64, Int.toNat_natCast]
  congr 4
  · simp
    omega
  · by_cases h : X < Y + k
    · rw [if_pos h, if_pos (by omega)]; rfl
    · rw [if_neg h, if_neg (by omega)]; rfl
theorem fn_sub64 {f : FuncId} {fn : Func} (hf : P.funcs[f]? = some fn) (hname : (fn.name == "runtime.NumGoroutine") = false) (hb : fn.body.isNone = true) (hn : Extern.findNext fn = none) (he : Extern.find fn = some sub64Entry) {x y c : Int} (hx : 0 ≤ x) (hy : 0 ≤ y) (hy2 : y < 18446744073709551616) (hc0 : 0 ≤ c) (hc : c ≤ 1) :
    FnOK P f [.d (.int .u64 x), .d (.int .u64 y), .d (.int .u64 c)] (.tup [.d (.int .u64 ((x - y - c) % 18446744073709551616)), .d (.int .u64 (if x < y + c then 1 else 0))]) [] := by
  refine fn_extern (args := [.int .u64 x, .int .u64 y, .int .u64 c]) hf hname hb hn he fun w D vs hsz hv => ?_
  have hvs : vs = #[.int .u64 x, .int .u64 y, .int .u64 c] := by
    obtain ⟨l⟩ := vs
    have h0 := hv 0 _ rfl
    have h1 := hv 1 _ rfl
    have h2 := hv 2 _ rfl
    match l, hsz with
    | [a, b, c], _ => simp [Rep] at h0 h1 h2; simp [h0, h1, h2]
  subst hvs
  exact ⟨_, run_sub64 x y c hx hy hy2 hc0 hc w, by simp [SRep, SReps, Rep]⟩
/-- Both, for numbers that are known. -/
def addO : List SV → Option (SV × Sto)
  | [.d (.int .u64 x), .d (.int .u64 y), .d (.int .u64 c)] => if decide (0 ≤ x) && decide (0 ≤ y) && decide (0 ≤ c) && decide (c ≤ 1) then some (.tup [.d (.int .u64 ((x + y + c) % 18446744073709551616)), .d (.int .u64 ((x + y + c) / 18446744073709551616))], []) else none
  | _ => none
def subO : List SV → Option (SV × Sto)
  | [.d (.int .u64 x), .d (.int .u64 y), .d (.int .u64 c)] => if decide (0 ≤ x) && decide (0 ≤ y) && decide (y < 18446744073709551616) && decide (0 ≤ c) && decide (c ≤ 1) then some (.tup [.d (.int .u64 ((x - y - c) % 18446744073709551616)), .d (.int .u64 (if x < y + c then 1 else 0))], []) else none
  | _ => none
theorem addO_ok {f : FuncId} {fn : Func} (hf : P.funcs[f]? = some fn) (hname : (fn.name == "runtime.NumGoroutine") = false) (hb : fn.body.isNone = true) (hn : Extern.findNext fn = none) (he : Extern.find fn = some add64Entry) {args : List SV} {r : SV} {R : Sto} (h : addO args = some (r, R)) : FnOK P f args r R := by
  unfold addO at h
  split at h
  · split at h
    · rename_i hc
      simp only [Bool.and_eq_true, decide_eq_true_eq] at hc
      injection h with h
      injection h with h1 h2
      subst h1 h2
      exact fn_add64 hf hname hb hn he hc.1.1.1 hc.1.1.2 hc.1.2 hc.2
    · cases h
  · cases h
theorem subO_ok {f : FuncId} {fn : Func} (hf : P.funcs[f]? = some fn) (hname : (fn.name == "runtime.NumGoroutine") = false) (hb : fn.body.isNone = true) (hn : Extern.findNext fn = none) (he : Extern.find fn = some sub64Entry) {args : List SV} {r : SV} {R : Sto} (h : subO args = some (r, R)) : FnOK P f args r R := by
  unfold subO at h
  split at h
  · split at h
    · rename_i hc
      simp only [Bool.and_eq_true, decide_eq_true_eq] at hc
      injection h with h
      injection h with h1 h2
      subst h1 h2
      exact fn_sub64 hf hname hb hn he hc.1.1.1.1 hc.1.1.1.2 hc.1.1.2 hc.1.2 hc.2
    · cases h
  · cases h
end
end Go.Proofs.Ytikfkipalifohaa.A
