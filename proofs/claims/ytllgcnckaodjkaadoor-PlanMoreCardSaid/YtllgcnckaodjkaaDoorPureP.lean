/- Plain law (seat P): which definitions are right, and their keys. -/
import Derived.Test.YtllgcnckaodjkaaDoorPure1
import Derived.Test.YtllgcnckaodjkaaDoorMVars
import Derived.Test.YtllgcnckaodjkaaDoorQ2
namespace Go.Proofs.YtllgcnckaodjkaaDoor.Q
open Go.RowKit Go.Proofs.YtllgcnckaodjkaaDoor.Plain Go.Proofs.YtllgcnckaodjkaaDoorW.PrintWords Go.Lib

theorem len_zero (l : List ByteArray) : ((l.length : Int) == 0) = decide (l.length = 0) := by
  rw [Bool.eq_iff_iff, beq_iff_eq, decide_eq_true_eq]
  omega
structure DefV where
  kind : Int
  cls : ByteArray
  sup : ByteArray
  vars : List ByteArray
  sel : ByteArray
  src : ByteArray
def rightD (d : DefV) : Bool :=
  if d.kind = 1 then classN d.cls && (!memB alwaysL d.cls && (classN d.sup && (varsN d.vars && (decide (d.sel = ByteArray.empty) && decide (d.src = ByteArray.empty)))))
  else if d.kind = 2 then classN d.cls && (decide (kindOf d.sel ≠ 0) && (decide (d.src.size ≤ 4000) && (decide (d.sup = ByteArray.empty) && decide (d.vars.length = 0))))
  else false
def arrowB : ByteArray := ⟨#[62, 62]⟩
def keyD (d : DefV) : ByteArray := if rightD d = true then (if d.kind = 1 then d.cls else d.cls ++ arrowB ++ d.sel) else ByteArray.empty
theorem kind_ok (s : ByteArray) (h : s.size < 4294967281) : name_Kind.f s = some (kindOf s) := by
  unfold name_Kind.f
  rw [if_pos h]
theorem kindOf_ge (s : ByteArray) : kindOf s = 0 ∨ 0 < kindOf s := by
  unfold kindOf
  split
  · exact .inr (by decide)
  split
  · exact .inr (by decide)
  split
  · exact .inr (by decide)
  · exact .inl rfl
theorem right_ok (k : Nat) (d : DefV) (h : d.sel.size < 4294967281) (hk : 60 < k) : def_Right.f k d.kind d.cls d.sup d.vars d.sel d.src = some (rightD d) := by
  unfold def_Right.f rightD def_vars.f
  by_cases h1 : d.kind = 1
  · rw [if_pos h1, if_pos h1, class_ok, class_ok, always_ok k _ (by omega)]
    cases classN d.cls
    · rfl
    · cases memB alwaysL d.cls
      · cases classN d.sup
        · rfl
        · cases varsN d.vars
          · rfl
          · simp only [Option.bind_some, if_true, Bool.false_eq_true, if_false, Bool.true_and, Bool.not_false]
            by_cases e : d.sel = ByteArray.empty
            · rw [if_pos (tl_nil.2 e), tl_beq_nil]
              simp [e]
            · rw [if_neg (fun h => e (tl_nil.1 h))]
              simp [e]
      · rfl
  · rw [if_neg h1, if_neg h1]
    by_cases h2 : d.kind = 2
    · rw [if_pos h2, if_pos h2, class_ok, kind_ok _ h]
      cases classN d.cls
      · rfl
      · simp only [Option.bind_some, if_true, Bool.true_and]
        by_cases e : kindOf d.sel = 0
        · rw [if_pos e]
          simp [e]
        · rw [if_neg e]
          by_cases e2 : d.src.size ≤ 4000
          · rw [if_pos (by omega)]
            by_cases e3 : d.sup = ByteArray.empty
            · rw [if_pos (tl_nil.2 e3), len_zero]
              simp [e, e2, e3]
            · rw [if_neg (fun h => e3 (tl_nil.1 h))]
              simp [e3]
          · rw [if_neg (by omega)]
            simp [e2]
    · rw [if_neg h2, if_neg h2]

theorem key_ok (k : Nat) (d : DefV) (h : d.sel.size < 4294967281) (hc : d.cls.size ≤ 4294967296) (hk : 60 < k) : def_Key.f k d.kind d.cls d.sup d.vars d.sel d.src = some (keyD d) := by
  unfold def_Key.f keyD
  rw [right_ok k d h hk]
  cases rightD d
  · rfl
  · simp only [Option.bind_some, if_true]
    by_cases h1 : d.kind = 1
    · rw [if_pos h1, if_pos h1]
    · rw [if_neg h1, if_neg h1, if_pos (by omega), if_pos (by
        rw [ByteArray.size_append]
        have : (⟨#[62, 62]⟩ : ByteArray).size = 2 := rfl
        omega)]
      rfl
end Go.Proofs.YtllgcnckaodjkaaDoor.Q
