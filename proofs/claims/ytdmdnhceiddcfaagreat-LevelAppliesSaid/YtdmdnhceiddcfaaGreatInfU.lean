/- A byte's size and zero. -/
import Derived.Test.YtdmdnhceiddcfaaGreatProg
import Derived.Test.YtdmdnhceiddcfaaGreatSl
set_option linter.all false
namespace Go.Proofs.YtdmdnhceiddcfaaGreat
open Go.RowKit Go.Sl

theorem infoU8 : (Tryz.prog.info? 5).map (fun i => (i.zero, i.size, i.bytes)) = some (some (.int .u8 0), 1, 1) := by kernel_rfl
end Go.Proofs.YtdmdnhceiddcfaaGreat
