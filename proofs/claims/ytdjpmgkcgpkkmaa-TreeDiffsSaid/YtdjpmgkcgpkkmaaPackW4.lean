/- Walks of layer 2: the writer's raw bytes and texts, the nil writer, the document's first example. -/
import Derived.Test.YtdjpmgkcgpkkmaaPackW3
set_option linter.unusedVariables false
set_option linter.unusedSimpArgs false
namespace Go.Proofs.Ytdjpmgkcgpkkmaa
open Go.RowKit PackMath

theorem slice_of_own {B e k n : Nat} {w : World} {v : Value} {xs : List Value} (h : w.ownsRow B e k v n xs) : ∃ a c, v = .slice a n c := by
  rcases h.2 with ⟨rfl, h0⟩ | ⟨g, cap, cur, rfl, _⟩
  · exact ⟨none, 0, by rw [h0]⟩
  · exact ⟨_, cap, rfl⟩

theorem raw_nil (s : ByteArray) (w : World) :
    Calls Try.prog 45 #[.pointer none, .string s] w fun e w' => e = .returned (.tuple #[]) ∧ w = w' := by
  go_enter Try.func45, Try.ntmps45
  go_wp2
  go_end0
  exact ⟨rfl, rfl⟩
theorem raw_any (B p : Nat) (s : ByteArray) (w : World) (v : Value) (bs : List UInt8) (h : IsWr B w p v bs) (hB : B ≤ w.heap.size) (hl : bs.length + s.size ≤ 225000000000000) :
    Calls Try.prog 45 #[.pointer (some ⟨p, 0, none⟩), .string s] w fun e w' => e = .returned (.tuple #[]) ∧ ∃ v', IsWr B w' p v' (bs ++ s.data.toList) ∧ Moved w w' p v v' := by
  obtain ⟨i0, hi, hz0, hz1, hz2⟩ := info_parts infoU8
  have hcell : w.cell? ⟨p, 0, none⟩ = some v := by rw [cell_of_row _ _ _ _ _ _ h.cell]; rfl
  have hfr := frozen_of_row w p 0 _ _ h.cell
  have HR := Lib.hid h; clear h
  go_enter Try.func45, Try.ntmps45
  go_wp2_with (refine wpList_append_string_own _ rfl (.tmp 10) (.tmp 11) 80 9 rfl B 5 i0 (.int .u8 0) Try.underlying80 Try.underlying9 hi hz0 hz1 hz2 rfl v bs.length (bytesOf bs) rfl HR.out.own s rfl hl hB ?_; intro v1 w1 hown hg hat; obtain ⟨ga, gc, rfl⟩ := slice_of_own hown; obtain ⟨hc1, hf1⟩ := wr_midG HR.out (Below.refl _ _) hg)
  go_end0
  have HS := wr_stepG (l := s.data.toList) HR.out (Below.refl _ _) hown hg hat
  exact ⟨rfl, _, HS⟩

/-- A text as it is laid. -/
def textOf (s : ByteArray) : List UInt8 := short s.size ++ s.data.toList

theorem short300 : short 300 = [172, 2] := by
  rw [short_great (by decide), short_small (by decide)]; rfl
theorem lays_len : ([] ++ be 258 2 ++ short 300).length = 4 := by rw [short300]; rfl
theorem lays_lit : [] ++ be 258 2 ++ short 300 ++ textOf ⟨#[97, 98]⟩ = [1, 2, 172, 2, 2, 97, 98] := by
  unfold textOf
  rw [short300, show (ByteArray.mk #[97, 98]).size = 2 from rfl, short_small (by decide)]
  decide
end Go.Proofs.Ytdjpmgkcgpkkmaa
