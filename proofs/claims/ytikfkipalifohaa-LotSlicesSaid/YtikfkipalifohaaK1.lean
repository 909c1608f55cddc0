/- Lots: the known answers. -/
import Derived.Test.YtikfkipalifohaaK0
namespace Go.Proofs.Ytikfkipalifohaa
open Go Go.Proofs.Ytikfkipalifohaa.A
set_option maxRecDepth 100000
set_option maxHeartbeats 4000000

def iv (n : Int) : PV := .int .i64 n
def dv (n : Int) : SV := .d (.int .i64 n)
/-- The statement's own small example. -/
def kCfg : SV := .agg [.d (.list [[iv 0, iv 100, iv 0, iv 2], [iv 1, iv 7, iv 0, iv 0]]), dv 0, dv 0, dv 0, dv 0, dv 3, dv 0]
def kBook : SV := .agg [.d (.list [[iv 1, iv 1]]), .d (.list [[iv 1, iv 1, iv 1, iv 0]]), .d (.list []), .d (.list [[iv 0, iv 0, iv 7], [iv 0, iv 1, iv (-2)], [iv 1, iv 0, iv (-7)], [iv 1, iv 1, iv 2]]), .d (.list [[iv 100], [iv 7]]), .d (.list [])]
def kBook2 : SV := .agg [.d (.list [[iv 1, iv 1]]), .d (.list [[iv 1, iv 1, iv 1, iv 0]]), .d (.list []), .d (.list []), .d (.list [[iv 100], [iv 7]]), .d (.list [])]
theorem kR1 : FnOK Go.Proofs.Try.prog 24 [kCfg, kBook] (.d (.bool true)) [] := runF_sound (gv := givO) (deep := 5000) mix libO_ok 60 _ _ _ _ (by kernel_rfl)
theorem kR2 : FnOK Go.Proofs.Try.prog 24 [kCfg, kBook2] (.d (.bool true)) [] := runF_sound (gv := givO) (deep := 5000) mix libO_ok 60 _ _ _ _ (by kernel_rfl)
def libR : Oracle := knowO 24 [kCfg, kBook] (.d (.bool true)) [] (knowO 24 [kCfg, kBook2] (.d (.bool true)) [] libO)
theorem libR_ok : ∀ f args r R, libR f args = some (r, R) → FnOK Go.Proofs.Try.prog f args r R := knowO_ok kR1 (knowO_ok kR2 libO_ok)
end Go.Proofs.Ytikfkipalifohaa
