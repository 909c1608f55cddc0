/- Lots: the known answers. -/
import Derived.Test.YtikfkipalifohaaK1
namespace Go.Proofs.Ytikfkipalifohaa
open Go Go.Proofs.Ytikfkipalifohaa.A
set_option maxRecDepth 100000
set_option maxHeartbeats 4000000

def kLots : List (List PV) := [[iv 5, .list [[iv 0, iv 3]], iv (-6), iv 1, iv 0, iv 0], [iv 6, .list [[iv 0, iv 2]], iv (-4), iv 1, iv 0, iv 0], [iv 7, .list [[iv 0, iv 2]], iv (-4), iv 1, iv 0, iv 0], [iv 8, .list [[iv 1, iv (-2)]], iv 0, iv 1, iv 0, iv 0]]
theorem kM1 : FnOK Go.Proofs.Try.prog 11 [kCfg, kBook, dv 5] (.tup [.own 60, dv 0]) [(60, some (.row 55 6 kLots))] := runF_sound (gv := givO) (deep := 5000) mix libR_ok 60 _ _ _ _ (by kernel_rfl)
end Go.Proofs.Ytikfkipalifohaa
