/- The document: nodes, many, args. The document: Formed, named, short (printed by gzb.py). -/
import Derived.Test.YtajppgngoffonaaDoorGXc
namespace Go.Proofs.YtajppgngoffonaaDoor
open Go.RowKit

end Go.Proofs.YtajppgngoffonaaDoor

namespace Go.Proofs.YtajppgngoffonaaDoor
open Go.RowKit

end Go.Proofs.YtajppgngoffonaaDoor
