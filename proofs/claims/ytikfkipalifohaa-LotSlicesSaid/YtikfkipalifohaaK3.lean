/- Lots: the known answers. -/
import Derived.Test.YtikfkipalifohaaK2
namespace Go.Proofs.Ytikfkipalifohaa
open Go Go.Proofs.Ytikfkipalifohaa.A
set_option maxRecDepth 100000
set_option maxHeartbeats 4000000

theorem kM2 : FnOK Go.Proofs.Try.prog 11 [kCfg, kBook2, dv 5] (.tup [.nils, dv 3]) [] := runF_sound (gv := givO) (deep := 5000) mix libR_ok 60 _ _ _ _ (by kernel_rfl)
def libM : Oracle := knowO 11 [kCfg, kBook, dv 5] (.tup [.own 60, dv 0]) [(60, some (.row 55 6 kLots))] (knowO 11 [kCfg, kBook2, dv 5] (.tup [.nils, dv 3]) [] libO)
theorem libM_ok : ∀ f args r R, libM f args = some (r, R) → FnOK Go.Proofs.Try.prog f args r R := knowO_ok kM1 (knowO_ok kM2 libO_ok)
theorem knownLot : FnOK Go.Proofs.Try.prog 4 [] (.d (.bool true)) [] := runF_sound (gv := givO) (deep := 5000) mix libM_ok 60 _ _ _ _ (by kernel_rfl)
end Go.Proofs.Ytikfkipalifohaa
