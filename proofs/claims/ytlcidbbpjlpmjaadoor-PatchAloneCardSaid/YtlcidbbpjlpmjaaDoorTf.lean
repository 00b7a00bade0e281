/-
  The law's known(): the chapter's example; the refusal of both Hunks. No statement of the seat is proved here.
-/
import Derived.Test.YtlcidbbpjlpmjaaDoorTd
import Derived.Test.YtlcidbbpjlpmjaaDoorQl
namespace Go.Proofs.YtlcidbbpjlpmjaaDoor
open Go.RowKit

def exA : List (List UInt8) := [[97, 10], [98, 10], [99, 10]]
def exB : List (List UInt8) := [[97, 10], [120, 10], [99, 10]]
def exH : HkI := ⟨0, 0, [⟨0, 1⟩, ⟨1, 1⟩, ⟨2, 1⟩, ⟨0, 1⟩], [[97, 10], [98, 10], [120, 10], [99, 10]]⟩
def exT : List UInt8 := [64, 64, 32, 45, 48, 44, 51, 32, 43, 48, 44, 51, 32, 64, 64, 10, 32, 97, 10, 45, 98, 10, 43, 120, 10, 32, 99, 10]
theorem ex_steps : steps exA exB = [0, 1, 2, 0] := by simp [exA, exB, steps, lcs_cons, lcs_nil_left, lcs_nil_right]
theorem ex_hunks0 : hunksP exA exB 1 = [⟨0, 0, [⟨0, 1⟩, ⟨1, 1⟩, ⟨2, 1⟩, ⟨0, 1⟩], [[97, 10], [98, 10], [120, 10], [99, 10]]⟩] := by
  unfold hunksP diffP
  rw [ex_steps]
  rfl
theorem ex_hunks : (hunksP exA exB 1).map HkD.toI = [exH] := by rw [ex_hunks0]; rfl
theorem size_alloc (w : World) (o : Obj) : (w.alloc o).heap.size = w.heap.size + 1 := by simp
theorem ex_text : hksT [exH] = exT := by
  have h0 : Lib.itoa 0 = [48] := by simp [Lib.itoa, Lib.decDigits]
  have h3 : Lib.itoa 3 = [51] := by simp [Lib.itoa, Lib.decDigits]
  have hm : mayP exH = some ⟨2, 1, 1⟩ := rfl
  have hb : bodyT exH.eds exH.ls = [32, 97, 10, 45, 98, 10, 43, 120, 10, 32, 99, 10] := rfl
  have hh : headT exH ⟨2, 1, 1⟩ = [64, 64, 32, 45, 48, 44, 51, 32, 43, 48, 44, 51, 32, 64, 64, 10] := by
    show [64, 64, 32, 45] ++ (Lib.itoa 0 ++ ([44] ++ (Lib.itoa 3 ++ ([32, 43] ++ (Lib.itoa 0 ++ ([44] ++ (Lib.itoa 3 ++ [32, 64, 64, 10]))))))) = _
    rw [h0, h3]
    rfl
  show hkT exH ++ [] = _
  unfold hkT
  rw [hm]
  show headT exH ⟨2, 1, 1⟩ ++ bodyT exH.eds exH.ls ++ [] = _
  rw [hh, hb]
  rfl
theorem ex_ok : [exH].all okH = true := by decide
set_option maxHeartbeats 1000000 in
set_option maxRecDepth 100000 in
theorem hunks_err (Aa Ab : Option Addr) (n m ca cb : Nat) (ar : Int) (har : ar < 0 ∨ 10 < ar) (w : World) :
    Calls Tryd.prog 13 #[.slice Aa n ca, .slice Ab m cb, .int .i64 ar] w fun r w' => r = .returned (.tuple #[.slice none 0 0, .int .i64 1]) ∧ w' = w := by
  rcases har with h | h
  · go_enter Tryd.func13, Tryd.ntmps13
    go_wp2_with fail
    go_ret2
    exact ⟨rfl, rfl⟩
  · have h2 : ¬ ar < 0 := by omega
    go_enter Tryd.func13, Tryd.ntmps13
    go_wp2_with fail
    go_ret2
    exact ⟨rfl, rfl⟩
set_option maxHeartbeats 1000000 in
set_option maxRecDepth 100000 in
theorem rhunks_err (Aa Ab : Option Addr) (n m ca cb : Nat) (ar : Int) (har : ar < 0 ∨ 10 < ar) (w : World) :
    Calls Tryd.prog 14 #[.slice Aa n ca, .slice Ab m cb, .int .i64 ar] w fun r w' => r = .returned (.tuple #[.slice none 0 0, .int .i64 1]) ∧ w' = w := by
  rcases har with h | h
  · go_enter Tryd.func14, Tryd.ntmps14
    go_wp2_with fail
    go_ret2
    exact ⟨rfl, rfl⟩
  · have h2 : ¬ ar < 0 := by omega
    go_enter Tryd.func14, Tryd.ntmps14
    go_wp2_with fail
    go_ret2
    exact ⟨rfl, rfl⟩
set_option maxHeartbeats 1000000 in
set_option maxRecDepth 100000 in
theorem known_any (w : World) (htab : Lib.TabIs Tryd.prog w "internal/strconv.uint64pow10" .u64 Lib.pow10Tab) :
    Calls Tryd.prog 11 #[] w fun r w' => r = .returned (.bool true) ∧ Below w.heap.size w w' := by
  have HTAB := Lib.hid (show ∀ W, Below w.heap.size w W → Lib.TabIs Tryd.prog W "internal/strconv.uint64pow10" .u64 Lib.pow10Tab from fun W k => Lib.tabBelow_of_tabIs htab W k)
  clear htab
  go_enter Tryd.func11, Tryd.ntmps11
  go_wp2_with fail
  have hsz : (w.alloc (.cells #[.string ⟨#[97, 10]⟩, .string ⟨#[98, 10]⟩, .string ⟨#[99, 10]⟩] 9)).heap.size = w.heap.size + 1 := size_alloc _ _
  have b1 := (Blk.new w 9 #[.string ⟨#[97, 10]⟩, .string ⟨#[98, 10]⟩, .string ⟨#[99, 10]⟩]).alloc (.cells #[.string ⟨#[97, 10]⟩, .string ⟨#[120, 10]⟩, .string ⟨#[99, 10]⟩] 9)
  have b2 := Blk.new (w.alloc (.cells #[.string ⟨#[97, 10]⟩, .string ⟨#[98, 10]⟩, .string ⟨#[99, 10]⟩] 9)) 9 #[.string ⟨#[97, 10]⟩, .string ⟨#[120, 10]⟩, .string ⟨#[99, 10]⟩]
  rw [hsz] at b2
  have hk0 : Keep Nothing w ((w.alloc (.cells #[.string ⟨#[97, 10]⟩, .string ⟨#[98, 10]⟩, .string ⟨#[99, 10]⟩] 9)).alloc (.cells #[.string ⟨#[97, 10]⟩, .string ⟨#[120, 10]⟩, .string ⟨#[99, 10]⟩] 9)) := ((Keep.refl _ w).alloc _).alloc _
  generalize (w.alloc (.cells #[.string ⟨#[97, 10]⟩, .string ⟨#[98, 10]⟩, .string ⟨#[99, 10]⟩] 9)).alloc (.cells #[.string ⟨#[97, 10]⟩, .string ⟨#[120, 10]⟩, .string ⟨#[99, 10]⟩] 9) = w2 at *
  have r1 : Reads w2 (w.heap.size + 2) 1 (some ⟨w.heap.size, 0, none⟩) exA.length (strL exA) := (Reads.of_blk (size := 1) (n := 3) b1 rfl rfl).more (by omega)
  have r2 : Reads w2 (w.heap.size + 2) 1 (some ⟨w.heap.size + 1, 0, none⟩) exB.length (strL exB) := Reads.of_blk (size := 1) (n := 3) b2 rfl rfl
  have hw2 := b2.lt
  refine (hunks_any exA exB (some ⟨w.heap.size, 0, none⟩) (some ⟨w.heap.size + 1, 0, none⟩) 3 3 (w.heap.size + 2) 1 w2 r1 r2 (by omega) (by decide) (by decide) (by decide) (by decide) (by decide) (by decide) (by decide)).mono ?_
  rintro r w3 ⟨A, cp, rfl, hcp1, hcp2, hin, bel⟩
  have hI := hin.toI
  have hln : (hunksP exA exB 1).length = 1 := by rw [ex_hunks0]; rfl
  rw [ex_hunks] at hI
  rw [hln]
  clear hin hln
  have b3 : Below w.heap.size w w3 := hk0.all.trans (bel.mono (by omega))
  have ht : textR [exH] = .tuple #[.string ⟨#[64, 64, 32, 45, 48, 44, 51, 32, 43, 48, 44, 51, 32, 64, 64, 10, 32, 97, 10, 45, 98, 10, 43, 120, 10, 32, 99, 10]⟩, .int .i64 0] := by
    unfold textR
    rw [if_pos ex_ok, ex_text]
    rfl
  have HQ := text_any [exH] A cp w3.heap.size w3 (Nat.le_refl _) hI (by decide) (by intro h hh; simp at hh; subst hh; exact ⟨by decide, by decide, by decide⟩) (by rw [ex_text]; decide) (HTAB.out _ b3)
  rw [ht] at HQ
  have HQ := Lib.hid HQ
  clear ht hI r1 r2 b1 b2
  go_wp2_with (go_at_call 25; refine HQ.out.mono ?_)
  rintro _ w4 ⟨rfl, b4⟩
  go_wp2_with fail
  go_ret
  exact ⟨rfl, b3.trans (b4.mono b3.size)⟩
end Go.Proofs.YtlcidbbpjlpmjaaDoor
