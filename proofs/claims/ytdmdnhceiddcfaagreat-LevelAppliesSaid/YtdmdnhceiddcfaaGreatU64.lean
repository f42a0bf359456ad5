/- Numbers of 64 bits in cells. -/
import Derived.Test.YtdmdnhceiddcfaaGreatProg
import Derived.Test.YtdmdnhceiddcfaaGreatSlk
set_option linter.all false
namespace Go.Proofs.YtdmdnhceiddcfaaGreat
open Go.RowKit Go.Sl

def u64E : Enc Nat := ⟨fun x => [.int .u64 x], 1, fun _ => rfl, by simp [Value.oneCell'], by omega⟩
theorem infoU64 : (Tryz.prog.info? 32).map (fun i => (i.zero, i.size, i.bytes)) = some (some (.int .u64 0), 1, 8) := by kernel_rfl
end Go.Proofs.YtdmdnhceiddcfaaGreat
