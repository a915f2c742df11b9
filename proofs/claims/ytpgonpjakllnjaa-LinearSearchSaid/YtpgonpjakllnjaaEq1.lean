/-
  LinearModel: maps.Equal of two maps of the same entries, by the kit's shelf.
-/
import Derived.Test.YtpgonpjakllnjaaMd2
import Derived.Shelf.SlMaps.Equal
namespace Go.Proofs.Ytpgonpjakllnjaa
open Go.Vm Go.Vm.Md Go.Shelf Go.Maps Go.RowKit
namespace Lm

end Lm
end Go.Proofs.Ytpgonpjakllnjaa
