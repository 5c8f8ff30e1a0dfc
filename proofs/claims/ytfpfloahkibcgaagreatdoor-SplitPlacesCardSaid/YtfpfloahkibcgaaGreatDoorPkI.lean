/- PkI: Cats, Has, Has2, Has3, each with its own sentence. -/
import Derived.Test.YtfpfloahkibcgaaGreatDoorPkH
import Derived.Test.YtfpfloahkibcgaaGreatDoorPkF
import Derived.Deep.RegionHeld3
import Derived.BigGuard
/- The walk of Cats, out of the contract of Has for each of the list. -/
namespace Go.Proofs.YtfpfloahkibcgaaGreatDoor
open Go.RowKit

theorem take_txt (s : ByteArray) (k : Nat) : (s.extract 0 k).data.toList = s.data.toList.take k := by
  rw [ByteArray.data_extract, Array.toList_extract]
  simp [List.extract]
theorem drop_txt (s : ByteArray) (k : Nat) : (s.extract k s.size).data.toList = s.data.toList.drop k := by
  rw [ByteArray.data_extract, Array.toList_extract]
  simp only [List.extract]
  apply List.take_of_length_le
  rw [List.length_drop]
  have h : s.data.toList.length = s.size := by simp
  omega

end Go.Proofs.YtfpfloahkibcgaaGreatDoor

/- The walk of Has. -/
namespace Go.Proofs.YtfpfloahkibcgaaGreatDoor
open Go.RowKit

/-- A byte of a text. -/
theorem idx_string (s : ByteArray) (k : Nat) (x : UInt8) (hx : s.data.toList[k]? = some x) (W : World) : (Instr.index 9 (.string s) (.int .i64 k)).run Tryz.prog W = .ok (.int .u8 x.toNat) W := by
  obtain ⟨hl, e⟩ := List.getElem?_eq_some_iff.1 hx
  have hs : k < s.size := by simpa using hl
  rw [run_index_string W 9 s .i64 k Tryz.underlying9, dif_pos ⟨by omega, by omega⟩]
  congr 3
  have : s[k] = x := by rw [← e]; rfl
  simp [this]

end Go.Proofs.YtfpfloahkibcgaaGreatDoor

/- The walk of Has: the ops that ask their kids. -/
namespace Go.Proofs.YtfpfloahkibcgaaGreatDoor
open Go.RowKit

theorem starP_cut (P : Txt → Prop) (t : Txt) : StarP P t ↔ t = [] ∨ ∃ i, 1 ≤ i ∧ i ≤ t.length ∧ P (t.take i) ∧ StarP P (t.drop i) := by
  constructor
  · intro h
    cases h with
    | nil => exact .inl rfl
    | step a b hne ha hb =>
      refine .inr ⟨a.length, ?_, by simp, by simpa using ha, by simpa using hb⟩
      cases a with
      | nil => exact absurd rfl hne
      | cons x a => simp
  · rintro (rfl | ⟨i, h1, h2, h3, h4⟩)
    · exact .nil
    · have := StarP.step (t.take i) (t.drop i) (fun e => by
        have := congrArg List.length e
        rw [List.length_take, List.length_nil] at this
        omega) h3 h4
      rwa [List.take_append_drop] at this

end Go.Proofs.YtfpfloahkibcgaaGreatDoor

/- The walk of Has: a star; and the contract of all. -/
namespace Go.Proofs.YtfpfloahkibcgaaGreatDoor
open Go.RowKit

theorem mem_size_le (l : List Re) (k : Re) (h : k ∈ l) : k.size ≤ Re.sizes l := getD_mem_size l k h
end Go.Proofs.YtfpfloahkibcgaaGreatDoor
