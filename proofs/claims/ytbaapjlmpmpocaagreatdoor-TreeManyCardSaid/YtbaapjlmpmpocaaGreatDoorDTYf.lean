/- Contract of slices.Clone at files. No statement of the seat is proved here. -/
import Derived.Test.YtbaapjlmpmpocaaGreatDoorDTVl
import Derived.Test.YtbaapjlmpmpocaaGreatDoorDT18
namespace Go.Proofs.YtbaapjlmpmpocaaGreatDoor
open Go.RowKit
theorem elemFile : Elem Tryz.prog 24 27 3 48 := by
 refine ⟨Tryz.underlying24, ?_, by decide⟩
 obtain ⟨i, hi, h1, h2, h3⟩ := info_parts (show (Tryz.prog.info? 27).map (fun i => (i.zero, i.size, i.bytes)) = some (some (.agg #[.string ⟨#[]⟩, .int .i64 0, .slice none 0 0]), 3, 48) by kernel_rfl)
 exact ⟨i, _, hi, h1, h2, h3, rfl⟩
end Go.Proofs.YtbaapjlmpmpocaaGreatDoor
