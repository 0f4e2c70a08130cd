/- The rules' holds, and Holds. -/
import Derived.Test.YtajppgngoffonaaGreatDoorGHo
import Derived.Test.YtajppgngoffonaaGreatDoorGEw
namespace Go.Proofs.YtajppgngoffonaaGreatDoor
open Go.RowKit

end Go.Proofs.YtajppgngoffonaaGreatDoor
