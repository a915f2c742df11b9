/-
  LinearModel (0): what must be answered ahead of everything else.
-/
import Derived.Test.YtpgonpjakllnjaaBa
import Derived.Test.YtpgonpjakllnjaaVm30
namespace Go.Proofs.Ytpgonpjakllnjaa
open Go.Vm
namespace Lm
def xQ : Exts := [(72, .mapsClone)]
theorem run6 : (run Try.prog xQ noSp 100000 false 6 (entry Try.f6 (Try.f6.body.getD .ret) [] .leaf 0 [])).map (·.all (leafB (.lit true))) = some true := by kernel_rfl
end Lm
end Go.Proofs.Ytpgonpjakllnjaa
