/- Plain law: what a reader of octets reads (numbers, texts, lists of texts); no program in sight. -/
import Derived.Lib.Split
import Derived.Test.YtllgcnckaodjkaaDoorWWords
namespace Go.Proofs.YtllgcnckaodjkaaDoor.Plain
open Go.Proofs.YtllgcnckaodjkaaDoorW.PrintWords

def valL (l : List UInt8) : Nat := l.foldl (fun n c => n * 256 + c.toNat) 0
theorem valL_snoc (l : List UInt8) (c : UInt8) : valL (l ++ [c]) = valL l * 256 + c.toNat := by simp [valL]
theorem valL_lt (l : List UInt8) : valL l < 256 ^ l.length := by
  have gen : ∀ (l : List UInt8) (n m : Nat), n < 256 ^ m → l.foldl (fun n c => n * 256 + c.toNat) n < 256 ^ (m + l.length) := by
    intro l
    induction l with
    | nil => intro n m h; simpa using h
    | cons c l ih =>
      intro n m h
      have hc := c.toNat_lt
      have := ih (n * 256 + c.toNat) (m + 1) (by rw [Nat.pow_succ]; omega)
      rw [List.foldl_cons, List.length_cons]
      rw [show m + (l.length + 1) = m + 1 + l.length from by omega]
      exact this
  have := gen l 0 0 (by decide)
  simpa [valL] using this

/-- the first so many octets, and what is behind them -/
def cutB (B : ByteArray) (n : Nat) : ByteArray := B.extract n B.size
theorem cutB_size (B : ByteArray) (n : Nat) : (cutB B n).size = B.size - n := by simp [cutB, ByteArray.size_extract]
theorem cutB_list (B : ByteArray) (n : Nat) : (cutB B n).data.toList = B.data.toList.drop n := by
  rw [cutB, Lib.extract_to_end]
theorem cutB_bytes (B : ByteArray) (n : Nat) : bytesOf (cutB B n) = (bytesOf B).drop n := by
  simp only [bytesOf, cutB_list, List.map_drop]
theorem bytesOf_take (B : ByteArray) (n : Nat) : bytesOf (B.extract 0 n) = (bytesOf B).take n := by
  simp only [bytesOf, Lib.extract_from_zero, List.map_take]
theorem strOfNums_bytesOf (B : ByteArray) : strOfNums (bytesOf B) = B := by
  apply ByteArray.ext
  apply Array.toList_inj.1
  rw [strOfNums_data, bytesOf, List.map_map]
  conv => rhs; rw [← List.map_id B.data.toList]
  apply List.map_congr_left
  intro x _
  simp

theorem list_len (B : ByteArray) : B.data.toList.length = B.size := by simp

def rdNum (B : ByteArray) (e : Int) : Int × ByteArray × Int :=
  if e ≠ 0 then (0, B, e) else if B.size < 4 then (0, B, 10) else
  if valL (B.data.toList.take 4) > 2147483647 then (0, B, 11) else ((valL (B.data.toList.take 4) : Nat), cutB B 4, 0)
def rdText (B : ByteArray) (e : Int) : ByteArray × ByteArray × Int :=
  if (rdNum B e).2.2 ≠ 0 then (ByteArray.empty, B, (rdNum B e).2.2)
  else if ((rdNum B e).2.1.size : Int) < (rdNum B e).1 then (ByteArray.empty, B, 10)
  else ((rdNum B e).2.1.extract 0 (rdNum B e).1.toNat, cutB (rdNum B e).2.1 (rdNum B e).1.toNat, 0)
/-- k texts, one behind the other, as long as nothing is wrong -/
def rdLoop : Nat → ByteArray → List ByteArray → List ByteArray × ByteArray × Int
  | 0, B, acc => (acc, B, 0)
  | k + 1, B, acc => if (rdText B 0).2.2 ≠ 0 then (acc ++ [(rdText B 0).1], (rdText B 0).2.1, (rdText B 0).2.2) else rdLoop k (rdText B 0).2.1 (acc ++ [(rdText B 0).1])
def rdTexts (B : ByteArray) (e : Int) : List ByteArray × ByteArray × Int :=
  if (rdNum B e).2.2 ≠ 0 then ([], B, (rdNum B e).2.2)
  else if 1000000 < (rdNum B e).1 ∨ ((rdNum B e).2.1.size : Int) < (rdNum B e).1 then ([], B, 10)
  else if (rdLoop (rdNum B e).1.toNat (rdNum B e).2.1 []).2.2 ≠ 0 then ([], B, (rdLoop (rdNum B e).1.toNat (rdNum B e).2.1 []).2.2)
  else rdLoop (rdNum B e).1.toNat (rdNum B e).2.1 []

theorem rdNum_nonneg (B : ByteArray) (e : Int) : 0 ≤ (rdNum B e).1 ∧ (rdNum B e).1 ≤ 2147483647 ∧ (rdNum B e).2.1.size ≤ B.size := by
  unfold rdNum
  split
  · exact ⟨Int.le_refl _, by simp, Nat.le_refl _⟩
  split
  · exact ⟨Int.le_refl _, by simp, Nat.le_refl _⟩
  split
  · exact ⟨Int.le_refl _, by simp, Nat.le_refl _⟩
  · exact ⟨Int.natCast_nonneg _, by simp only; omega, by simp only [cutB_size]; omega⟩
end Go.Proofs.YtllgcnckaodjkaaDoor.Plain
