/- LotSlices: for every number of 128 bits, every size, every small number and part: the program's lot.Slices answers as the document's Slices does. No further condition. -/
import Derived.Test.YtikfkipalifohaaRows
import Derived.Test.YtikfkipalifohaaL1
import Derived.Test.YtikfkipalifohaaA22
import Derived.WalkKit
import Derived.ProofKit
import Derived.OpenShut
import Derived.ChangeOld
import Derived.SizedLaws
import Derived.Lib.SmallJoins
namespace Go.Proofs.Ytikfkipalifohaa.rowSlices
open Go Go.ChangeShapes Go.WideShapes Go.ChangeAt Go.RowKit Go.Joins Go.Proofs.Ytikfkipalifohaa.A
set_option linter.unusedVariables false
theorem own : ownKnob Try.prog.godebug = none := by kernel_rfl
theorem laidOut : laidOutB Try.prog = true := by kernel_rfl
/-- The least and the greatest number of a kind. -/
theorem wfR {k : IntKind} {n l h : Int} (e1 : k.min = l) (e2 : k.max = h) (hw : (Lit.int k n).wf = true) : l ≤ n ∧ n ≤ h := by
  simp only [Lit.wf, Bool.and_eq_true, decide_eq_true_eq] at hw
  rw [← e1, ← e2]
  exact hw
theorem called (W : World) (hi lo s a b : Int) (h1 : (Lit.int .i64 hi).wf = true) (h2 : (Lit.int .u64 lo).wf = true) (h3 : (Lit.int .i64 s).wf = true) (h4 : (Lit.int .u16 a).wf = true) (h5 : (Lit.int .u8 b).wf = true) :
    Calls Try.prog 3 #[.agg #[.int .i64 hi, .int .u64 lo], .int .i64 s, .int .u16 a, .int .u8 b] W fun e W' => e = .returned (.bool true) ∧ Below W.heap.size W W' := by
  have r1 := wfR (l := -9223372036854775808) (h := 9223372036854775807) rfl rfl h1
  have r2 := wfR (l := 0) (h := 18446744073709551615) rfl rfl h2
  have r3 := wfR (l := -9223372036854775808) (h := 9223372036854775807) rfl rfl h3
  have r4 := wfR (l := 0) (h := 65535) rfl rfl h4
  have r5 := wfR (l := 0) (h := 255) rfl rfl h5
  have e1 : wh (hi * 18446744073709551616 + lo) = hi := by unfold wh; omega
  have e2 : wl (hi * 18446744073709551616 + lo) = lo := by unfold wl; omega
  refine calls_of_fn (fn := Try.f3) Try.func3 rfl (by kernel_rfl) (lotSlices_ok (hi * 18446744073709551616 + lo) s a b (by unfold W128; omega) (by unfold I64; omega) (by omega) (by omega)) (fun w D ρ σ v h => by simpa only [SRep, Rep] using h) (fun j x hj => ?_) W _ ?_
  · match j with
    | 0 => simp at hj; exact .inr ⟨_, hj.symm⟩
    | 1 => simp at hj; exact .inl ⟨_, hj.symm⟩
    | 2 => simp at hj; exact .inl ⟨_, hj.symm⟩
    | 3 => simp at hj; exact .inl ⟨_, hj.symm⟩
    | j + 4 => simp at hj
  · simp [SReps, SRep, Rep, wz, e1, e2]
set_option maxRecDepth 100000 in
theorem lifted (os : Os) (started : os.Started) (H : Type) (enc : TypeId × Value → H) :
    ReturnsInHanded {} Try.checked os 3 .any (Rows.lotSlicesSpec.pre6 enc Try.prog Try.f3 Rows.lotSlicesRow.domain false) (Rows.lotSlicesSpec.post enc Try.prog Try.f3 false true false false) := by
  refine returnsInHanded_of_change_sized (C := Try.checked) own started (by kernel_rfl) Try.func3
    (ChangeSpec.witness6 (enc := enc) (C := Try.checked) false ⟨#[], #[.agg #[.int .i64 0, .int .u64 0], .int .i64 0, .int .u16 0, .int .u8 0], []⟩ 8 (by kernel_rfl) (by kernel_rfl) (by kernel_rfl) (by kernel_rfl)) ?_
  intro W base args ds gs before hval0 hW hcnd hsz0 _
  have hval : ∀ (j : Nat) t v, Try.f3.params[j]? = some t → args[j]? = some v → Value.okWide Try.prog W .any base t v := hval0
  have hW' := hW
  obtain ⟨p, q, hA0, hV, rfl, hfz, hnd⟩ := hW
  have hA : DataW.TrodAll enc Try.prog W 0 (fun _ => true) true Try.f3.params.toList args.toList ds p := hA0
  rw [Try.params3] at hA hval
  obtain ⟨v0, vs0, d0, ds0, p0, q0, hargs, rfl, rfl, k0, t0⟩ := trodAll_cons hA
  obtain ⟨v1, vs1, d1, ds1, p1, q1, rfl, rfl, rfl, k1, t1⟩ := trodAll_cons t0
  obtain ⟨v2, vs2, d2, ds2, p2, q2, rfl, rfl, rfl, k2, t2⟩ := trodAll_cons t1
  obtain ⟨v3, vs3, d3, ds3, p3, q3, rfl, rfl, rfl, k3, t3⟩ := trodAll_cons t2
  obtain ⟨rfl, rfl, rfl⟩ := trodAll_nil t3
  obtain rfl : args = #[v0, v1, v2, v3] := by cases args; simp_all
  obtain ⟨rfl, rfl⟩ := trodVars_none hV
  obtain ⟨x0, x1, y0, y1, n, rfl, rfl, rfl, g0, g1⟩ := open_agg2 (t := 24) Try.underlying24 (by kernel_rfl) (by kernel_rfl) (hval 0 24 v0 rfl rfl) k0
  obtain ⟨hi, e0, rfl, f0⟩ := DataW.trod_int Try.underlying2 g0
  obtain ⟨lo, e1, rfl, f1⟩ := DataW.trod_int Try.underlying22 g1
  obtain rfl : x0 = .int .i64 hi := by simpa using e0
  obtain rfl : x1 = .int .u64 lo := by simpa using e1
  obtain ⟨s, rfl, rfl, rfl, f2⟩ := open_int Try.underlying2 (hval 1 2 v1 rfl rfl) k1
  obtain ⟨a, rfl, rfl, rfl, f3⟩ := open_int Try.underlying25 (hval 2 25 v2 rfl rfl) k2
  obtain ⟨b, rfl, rfl, rfl, f4⟩ := open_int Try.underlying5 (hval 3 5 v3 rfl rfl) k3
  refine (called W hi lo s a b f0 f1 f2 f3 f4).mono fun e W' ⟨he, bel⟩ => ?_
  subst he
  exact ⟨_, rfl, _, _, _, [], _, [], hW', trodAll_mk1 (shut_bool Try.underlying4 _), trodAll_cons_mk (arg_back laidOut (by kernel_rfl) (by kernel_rfl) k0 bel) (trodAll_cons_mk (arg_back laidOut (by kernel_rfl) (by kernel_rfl) k1 bel) (trodAll_cons_mk (arg_back laidOut (by kernel_rfl) (by kernel_rfl) k2 bel) (trodAll_cons_mk (arg_back laidOut (by kernel_rfl) (by kernel_rfl) k3 bel) trodAll_mk0))), rfl, bel.frame _, fun h => by cases h⟩
set_option maxRecDepth 100000 in
theorem over : Rows.lotSlicesRow.holds Try.pinned (OpenSpec.ofChange Rows.lotSlicesSpec) :=
  OpenClaim.holds_of_wide 3 Try.f3 rfl rfl rfl rfl rfl rfl rfl ⟨rfl, rfl, rfl, rfl, rfl⟩ rfl rfl rfl rfl rfl (by kernel_rfl) Try.func3 (by kernel_rfl)
    (of_decide_eq_true (by kernel_rfl)) (by unfold Func.isWrapper; first | (rw [if_pos (by decide +kernel)]; kernel_rfl) | (rw [if_neg (by decide +kernel)]; exact ⟨rfl, rfl⟩))
    (fun os started H enc _ => lifted os started H enc)
end Go.Proofs.Ytikfkipalifohaa.rowSlices
namespace Go.Proofs.Ytikfkipalifohaa
/-- The row. -/
theorem lotSlices_holds : Rows.LotSlicesSaid := rowSlices.over
#print axioms lotSlices_holds
end Go.Proofs.Ytikfkipalifohaa
