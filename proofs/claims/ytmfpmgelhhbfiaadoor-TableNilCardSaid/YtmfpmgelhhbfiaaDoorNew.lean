/- A new table. -/
import Derived.Test.YtmfpmgelhhbfiaaDoorOut
namespace Go.Proofs.YtmfpmgelhhbfiaaDoor
open Go.RowKit

def zrow : Value := .agg (Array.replicate 255 (.int .u8 0) ++ Array.replicate 255 (.bool false))
theorem Tryd.infor : (Tryd.prog.info? 84).map (fun i => (i.zero, i.size, i.bytes)) = some (some zrow, 510, 510) := by kernel_rfl

end Go.Proofs.YtmfpmgelhhbfiaaDoor
