/- Plain law: what a reader reads as a definition. -/
import Derived.Test.YtoiaancehakiiaaDoorPure4
namespace Go.Proofs.YtoiaancehakiiaaDoor.Q
open Go.Proofs.YtoiaancehakiiaaDoor.Plain

def zeroD : DefV := ⟨0, ByteArray.empty, ByteArray.empty, [], ByteArray.empty, ByteArray.empty⟩
/-- the parts, as they come -/
def rdParts (B : ByteArray) (e : Int) : DefV × ByteArray × Int :=
  if (rdNum B e).1 = 1 then
    (⟨1, (rdText (rdNum B e).2.1 (rdNum B e).2.2).1, (rdText (rdText (rdNum B e).2.1 (rdNum B e).2.2).2.1 (rdText (rdNum B e).2.1 (rdNum B e).2.2).2.2).1,
      (rdTexts (rdText (rdText (rdNum B e).2.1 (rdNum B e).2.2).2.1 (rdText (rdNum B e).2.1 (rdNum B e).2.2).2.2).2.1 (rdText (rdText (rdNum B e).2.1 (rdNum B e).2.2).2.1 (rdText (rdNum B e).2.1 (rdNum B e).2.2).2.2).2.2).1, ByteArray.empty, ByteArray.empty⟩,
      (rdTexts (rdText (rdText (rdNum B e).2.1 (rdNum B e).2.2).2.1 (rdText (rdNum B e).2.1 (rdNum B e).2.2).2.2).2.1 (rdText (rdText (rdNum B e).2.1 (rdNum B e).2.2).2.1 (rdText (rdNum B e).2.1 (rdNum B e).2.2).2.2).2.2).2)
  else if (rdNum B e).1 = 2 then
    (⟨2, (rdText (rdNum B e).2.1 (rdNum B e).2.2).1, ByteArray.empty, [], (rdText (rdText (rdNum B e).2.1 (rdNum B e).2.2).2.1 (rdText (rdNum B e).2.1 (rdNum B e).2.2).2.2).1,
      (rdText (rdText (rdText (rdNum B e).2.1 (rdNum B e).2.2).2.1 (rdText (rdNum B e).2.1 (rdNum B e).2.2).2.2).2.1 (rdText (rdText (rdNum B e).2.1 (rdNum B e).2.2).2.1 (rdText (rdNum B e).2.1 (rdNum B e).2.2).2.2).2.2).1⟩,
      (rdText (rdText (rdText (rdNum B e).2.1 (rdNum B e).2.2).2.1 (rdText (rdNum B e).2.1 (rdNum B e).2.2).2.2).2.1 (rdText (rdText (rdNum B e).2.1 (rdNum B e).2.2).2.1 (rdText (rdNum B e).2.1 (rdNum B e).2.2).2.2).2.2).2)
  else (⟨(rdNum B e).1, ByteArray.empty, ByteArray.empty, [], ByteArray.empty, ByteArray.empty⟩, (rdNum B e).2)
/-- a definition, or why none; and the reader behind it -/
def rdDef (B : ByteArray) (e : Int) : DefV × Int × ByteArray × Int :=
  if (rdParts B e).2.2 ≠ 0 then (zeroD, (rdParts B e).2.2, (rdParts B e).2)
  else if rightD (rdParts B e).1 = true then ((rdParts B e).1, 0, (rdParts B e).2)
  else (zeroD, 31, (rdParts B e).2)

theorem rdParts_1 {B B1 B2 B3 B4 : ByteArray} {e e1 e2 e3 e4 : Int} {C S : ByteArray} {V : List ByteArray} (h1 : rdNum B e = (1, B1, e1)) (h2 : rdText B1 e1 = (C, B2, e2)) (h3 : rdText B2 e2 = (S, B3, e3)) (h4 : rdTexts B3 e3 = (V, B4, e4)) :
    rdParts B e = (⟨1, C, S, V, ByteArray.empty, ByteArray.empty⟩, B4, e4) := by
  unfold rdParts
  simp only [h1, h2, h3, h4, if_true]
theorem rdParts_2 {B B1 B2 B3 B4 : ByteArray} {e e1 e2 e3 e4 : Int} {C L R : ByteArray} (h1 : rdNum B e = (2, B1, e1)) (h2 : rdText B1 e1 = (C, B2, e2)) (h3 : rdText B2 e2 = (L, B3, e3)) (h4 : rdText B3 e3 = (R, B4, e4)) :
    rdParts B e = (⟨2, C, ByteArray.empty, [], L, R⟩, B4, e4) := by
  unfold rdParts
  simp only [h1, h2, h3, h4]
  rw [if_neg (by decide)]
  rfl
theorem rdParts_0 {B B1 : ByteArray} {e e1 n : Int} (h1 : rdNum B e = (n, B1, e1)) (hn1 : n ≠ 1) (hn2 : n ≠ 2) :
    rdParts B e = (⟨n, ByteArray.empty, ByteArray.empty, [], ByteArray.empty, ByteArray.empty⟩, B1, e1) := by
  unfold rdParts
  rw [h1, if_neg hn1, if_neg hn2]
end Go.Proofs.YtoiaancehakiiaaDoor.Q
