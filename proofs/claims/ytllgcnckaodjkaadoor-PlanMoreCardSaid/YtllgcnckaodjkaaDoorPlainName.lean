/- Plain law: what a name is, over lists of bytes; no program in sight. -/
import Derived.Laws.RangeAny
namespace Go.Proofs.YtllgcnckaodjkaaDoor.Plain

/-- a letter: the octet is one of a .. z, A .. Z. -/
def smallB (c : UInt8) : Bool := decide (97 ≤ c.toNat) && decide (c.toNat ≤ 122)
def largeB (c : UInt8) : Bool := decide (65 ≤ c.toNat) && decide (c.toNat ≤ 90)
def digitB (c : UInt8) : Bool := decide (48 ≤ c.toNat) && decide (c.toNat ≤ 57)
def letterB (c : UInt8) : Bool := smallB c || largeB c
/-- may the octet c stand at place i of a name? -/
def okB (i : Nat) (c : UInt8) : Bool := letterB c || (decide (i ≠ 0) && digitB c)
/-- is the text a name? -/
def isName (l : List UInt8) : Bool := decide (1 ≤ l.length) && decide (l.length ≤ 40) && (List.range l.length).all fun i => okB i (l.getD i 0)

theorem isName_all (l : List UInt8) (h : ∀ i, i < l.length → okB i (l.getD i 0) = true) : isName l = (decide (1 ≤ l.length) && decide (l.length ≤ 40)) := by
  unfold isName
  have : ((List.range l.length).all fun i => okB i (l.getD i 0)) = true := by
    rw [List.all_eq_true]
    intro i hi
    exact h i (List.mem_range.1 hi)
  rw [this, Bool.and_true]

theorem isName_bad (l : List UInt8) (i : Nat) (hi : i < l.length) (h : okB i (l.getD i 0) = false) : isName l = false := by
  unfold isName
  have : ((List.range l.length).all fun i => okB i (l.getD i 0)) = false := by
    rw [List.all_eq_false]
    exact ⟨i, List.mem_range.2 hi, by simp only [h]; simp⟩
  rw [this, Bool.and_false]

theorem getD_at (s : ByteArray) (i : Nat) (h : i < s.size) : s.data.toList.getD i 0 = s[i]'h := by
  have hl : i < s.data.toList.length := by simpa using h
  rw [List.getD_eq_getElem?_getD, List.getElem?_eq_getElem hl]
  rfl
end Go.Proofs.YtllgcnckaodjkaaDoor.Plain
