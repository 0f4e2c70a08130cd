/- The rules' holds, and Holds. -/
import Derived.Test.YtajppgngoffonaaDoorGHo
import Derived.Test.YtajppgngoffonaaDoorGEw
namespace Go.Proofs.YtajppgngoffonaaDoor
open Go.RowKit

end Go.Proofs.YtajppgngoffonaaDoor
