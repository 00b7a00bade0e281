/- Chunks in memory: a row of chunks whose last one may grow. No statement of the seat is proved here. -/
import Derived.Test.YtbaapjlmpmpocaaGreatDoorDT05
import Derived.Test.YtbaapjlmpmpocaaGreatDoorShelf
import Derived.Test.YtbaapjlmpmpocaaGreatDoorDT06
namespace Go.Proofs.YtbaapjlmpmpocaaGreatDoor
open Go.RowKit
theorem elemU8 : Elem Tryz.prog 25 5 1 1 := by
 refine ⟨Tryz.underlying25, ?_, by decide⟩
 obtain ⟨i, hi, h1, h2, h3⟩ := info_parts (show (Tryz.prog.info? 5).map (fun i => (i.zero, i.size, i.bytes)) = some (some (.int .u8 0), 1, 1) by kernel_rfl)
 exact ⟨i, _, hi, h1, h2, h3, rfl⟩
theorem elemStr : Elem Tryz.prog 65 9 1 16 := by
 refine ⟨Tryz.underlying65, ?_, by decide⟩
 obtain ⟨i, hi, h1, h2, h3⟩ := info_parts (show (Tryz.prog.info? 9).map (fun i => (i.zero, i.size, i.bytes)) = some (some (.string ByteArray.empty), 1, 16) by kernel_rfl)
 exact ⟨i, _, hi, h1, h2, h3, rfl⟩
theorem strL_one (l : List (List UInt8)) : ∀ v ∈ strL l, v.oneCell' = true := by
 intro v hv
 obtain ⟨s, _, rfl⟩ := List.mem_map.1 hv
 rfl
theorem zeroU8 : (Tryz.prog.info? 5).bind (·.zero) = some (.int .u8 0) := by kernel_rfl
theorem bvs_one (bs : List UInt8) : ∀ v ∈ bs.map byteV, v.oneCell' = true := by
 intro v hv
 obtain ⟨b, _, rfl⟩ := List.mem_map.1 hv
 rfl
set_option maxRecDepth 100000 in
theorem bytesEq_any {l m : List UInt8} {A C : Option Addr} {c d B B' : Nat} {w : World} (h1 : Reads w B 1 A l.length (l.map byteV)) (h2 : Reads w B' 1 C m.length (m.map byteV)) :
    Calls Tryz.prog 29 #[.slice A l.length c, .slice C m.length d] w fun e w' => e = .returned (.bool (decide (l = m))) ∧ w' = w := by
 have k1 : (convert 25 9 (.slice A l.length c)).run Tryz.prog w = .ok (.string ⟨l.toArray⟩) w := by
  rw [run_convert_bytes_string w 25 9 5 A l.length c Tryz.underlying25 Tryz.underlying5 Tryz.underlying9, run_str_of h1]
 have k2 : (convert 25 9 (.slice C m.length d)).run Tryz.prog w = .ok (.string ⟨m.toArray⟩) w := by
  rw [run_convert_bytes_string w 25 9 5 C m.length d Tryz.underlying25 Tryz.underlying5 Tryz.underlying9, run_str_of h2]
 have e1 : ((⟨l.toArray⟩ : ByteArray).toList == (⟨m.toArray⟩ : ByteArray).toList) = decide (l = m) := by
  rw [ByteArray.toList_eq, ByteArray.toList_eq]
  by_cases q : l = m
  · subst q; simp
  · simp [q]
 have h0 := Tryz.bytes_Equal_strs _ _ _ _ w k1 k2
 rw [e1] at h0
 exact h0
end Go.Proofs.YtbaapjlmpmpocaaGreatDoor
namespace Go.Proofs.YtbaapjlmpmpocaaGreatDoor
open Go.RowKit
theorem strL_at' {l : List (List UInt8)} {k : Nat} {s : List UInt8} (h : l[k]? = some s) : (strL l)[k]? = some (strC s) := by simp [strL, h]
end Go.Proofs.YtbaapjlmpmpocaaGreatDoor
namespace Go.Proofs.YtbaapjlmpmpocaaGreatDoor
open Go.RowKit
section
variable {w w' w2 : World} {lo hi : Nat} {v : Value} {l : List (List UInt8)}
end
abbrev Row3 : Type := Nat × Nat × List (List UInt8)
def rv (r : Row3) : Value := .slice (some ⟨r.1, 0, none⟩) r.2.2.length r.2.1
end Go.Proofs.YtbaapjlmpmpocaaGreatDoor
