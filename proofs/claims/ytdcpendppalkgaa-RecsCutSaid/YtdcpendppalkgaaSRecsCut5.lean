/- What the functions that the statement reaches do: their contracts; and what follows of it. -/
import Derived.Test.YtdcpendppalkgaaSRecsCut4
/- Which instructions there may be: the document's answer, path by path. PRINTED BY one.py, a program of this work. -/
namespace Go.Proofs
open Go Go.RowKit Go.Am

end Go.Proofs
