-- Printed for this claim by a program of the session's own over the kit's printer; Lean checks it.
import Derived.Test.YtllgcnckaodjkaaDoorQ0
import Derived.Test.YtllgcnckaodjkaaDoorQ3
import Derived.Test.YtllgcnckaodjkaaDoorQ5
import Derived.Test.YtllgcnckaodjkaaDoorMOrd
namespace Go.Proofs.YtllgcnckaodjkaaDoor.Q
open Go.RowKit Go.Proofs.YtllgcnckaodjkaaDoorW.PrintWords Go.Proofs.YtllgcnckaodjkaaDoorW.PrintLast Go.Proofs.YtllgcnckaodjkaaDoorW.PrintMore
attribute [local go_sem] max2_int min2_int max_two min_two max_three min_three max_four min_four   -- for this text's walks alone
set_option linter.unusedVariables false
set_option linter.unusedSimpArgs false

/-! ### monticulelaw28_PlanSound: function 3 -/
mutual
def monticulelaw28_PlanSound.j0 : Nat → List ByteArray → List (S34) → Bool → Option (Bool)
  | 0, _, _, _ => none
  | k + 1, x0, x1, x27 => if x27 = true then ((monticulelaw28_awake.f k).bind fun t206 => (some t206)) else ((plan_Order.f k x0 x1).bind fun bt207 => (if bt207.2.1 = 71 then (monticulelaw28_PlanSound.l0 k x1 bt207.2.2 (([bt207.2.2] : List ByteArray)) 0) else (if bt207.2.1 = 0 then ((some (([] : List ByteArray) : List ByteArray)).bind fun y226 => (if y226.length + x0.length < 8796093022208 then (monticulelaw28_PlanSound.l2 k x1 bt207.1 (y226 ++ x0) 0) else (none))) else (some ((bt207.1.length : Int) == 0)))))
def monticulelaw28_PlanSound.l0 : Nat → List (S34) → ByteArray → List ByteArray → Int → Option (Bool)
  | 0, _, _, _, _ => none
  | k + 1, x1, x7, x8, x9 => if x9 < 10 then (monticulelaw28_PlanSound.l1 k x1 x7 x8 x9 0) else (if 1 ≤ (x8.length : Int) then ((monticuleref06_In.f k (x8.drop 1) x7).bind fun t219 => (if t219 = true then (some true) else (some (decide ((x8.length : Int) > 1))))) else (none))
def monticulelaw28_PlanSound.l1 : Nat → List (S34) → ByteArray → List ByteArray → Int → Int → Option (Bool)
  | 0, _, _, _, _, _ => none
  | k + 1, x1, x7, x8, x9, x10 => if x10 < (x1.length : Int) then (if 0 ≤ x10 then ((monticuleref06_In.f k x8 ((rd_T34 x1 x10).f0)).bind fun t221 => (if t221 = true then (if x8.length + ((rd_T34 x1 x10).f2).length < 8796093022208 then (monticulelaw28_PlanSound.l1 k x1 x7 (x8 ++ ((rd_T34 x1 x10).f2)) x9 (wrap64 (x10 + 1))) else (none)) else (monticulelaw28_PlanSound.l1 k x1 x7 x8 x9 (wrap64 (x10 + 1))))) else (none)) else (monticulelaw28_PlanSound.l0 k x1 x7 x8 (wrap64 (x9 + 1)))
def monticulelaw28_PlanSound.l2 : Nat → List (S34) → List Int → List ByteArray → Int → Option (Bool)
  | 0, _, _, _, _ => none
  | k + 1, x1, x5, x11, x12 => if x12 < (x5.length : Int) then (if 0 ≤ x12 then (if (rd x5 x12) < 0 then (monticulelaw28_PlanSound.j4 k x1 x5 x11 x12 true) else (if (rd x5 x12) ≥ (x1.length : Int) then (monticulelaw28_PlanSound.j4 k x1 x5 x11 x12 true) else (if x12 > 0 then (monticulelaw28_PlanSound.j4 k x1 x5 x11 x12 ((x5.length : Int) != (x1.length : Int))) else (monticulelaw28_PlanSound.j4 k x1 x5 x11 x12 false)))) else (none)) else (some ((x5.length : Int) == (x1.length : Int)))
def monticulelaw28_PlanSound.j4 : Nat → List (S34) → List Int → List ByteArray → Int → Bool → Option (Bool)
  | 0, _, _, _, _, _ => none
  | k + 1, x1, x5, x11, x12, x111 => if x111 = true then (some false) else (if 0 ≤ x12 then (if x12 < (x5.length : Int) then (if 0 ≤ (rd x5 x12) then (if (rd x5 x12) < (x1.length : Int) then (monticulelaw28_PlanSound.l3 k x1 x5 x11 x12 0 ((rd_T34 x1 (rd x5 x12)).f0) ((rd_T34 x1 (rd x5 x12)).f1) ((rd_T34 x1 (rd x5 x12)).f2) ((rd_T34 x1 (rd x5 x12)).f3)) else (none)) else (none)) else (none)) else (none))
def monticulelaw28_PlanSound.l3 : Nat → List (S34) → List Int → List ByteArray → Int → Int → ByteArray → Int → List ByteArray → List (S68) → Option (Bool)
  | 0, _, _, _, _, _, _, _, _, _ => none
  | k + 1, x1, x5, x11, x12, x14, x237000, x237001, x237002, x237003 => if x14 < (x237002.length : Int) then (if 0 ≤ x14 then ((monticuleref06_In.f k x11 (rdOf ByteArray.empty x237002 x14)).bind fun t238 => (if t238 = true then (monticulelaw28_PlanSound.l3 k x1 x5 x11 x12 (wrap64 (x14 + 1)) x237000 x237001 x237002 x237003) else (some false))) else (none)) else (monticulelaw28_PlanSound.l4 k x1 x5 x11 x12 0 x237000 x237001 x237002 x237003)
def monticulelaw28_PlanSound.l4 : Nat → List (S34) → List Int → List ByteArray → Int → Int → ByteArray → Int → List ByteArray → List (S68) → Option (Bool)
  | 0, _, _, _, _, _, _, _, _, _ => none
  | k + 1, x1, x5, x11, x12, x15, x237000, x237001, x237002, x237003 => if x15 < x12 then (if 0 ≤ x15 then (if x15 < (x5.length : Int) then (if 0 ≤ x12 then (if x12 < (x5.length : Int) then (if (rd x5 x15) = (rd x5 x12) then (some false) else (monticulelaw28_PlanSound.l4 k x1 x5 x11 x12 (wrap64 (x15 + 1)) x237000 x237001 x237002 x237003)) else (none)) else (none)) else (none)) else (none)) else (if x11.length < 8796093022208 then (monticulelaw28_PlanSound.l2 k x1 x5 (x11 ++ [x237000]) (wrap64 (x12 + 1))) else (none))
end
def monticulelaw28_PlanSound.f (k : Nat) (l0 : List ByteArray) (l1 : List (S34)) : Option (Bool) := (monticulelaw28_awake.f k).bind fun t203 => (if t203 = true then ((monticulelaw28_few.f k l0).bind fun t204 => (if t204 = true then ((monticuleref28_Few.f k l1 8).bind fun t205 => (monticulelaw28_PlanSound.j0 k l0 l1 (!t205))) else (monticulelaw28_PlanSound.j0 k l0 l1 true))) else (monticulelaw28_PlanSound.j0 k l0 l1 true))
theorem monticulelaw28_PlanSound.mono_l : ∀ k, (∀ y0 y1 y2, LeO (monticulelaw28_PlanSound.j0 k y0 y1 y2) (monticulelaw28_PlanSound.j0 (k + 1) y0 y1 y2)) ∧ (∀ y0 y1 y2 y3, LeO (monticulelaw28_PlanSound.l0 k y0 y1 y2 y3) (monticulelaw28_PlanSound.l0 (k + 1) y0 y1 y2 y3)) ∧ (∀ y0 y1 y2 y3 y4, LeO (monticulelaw28_PlanSound.l1 k y0 y1 y2 y3 y4) (monticulelaw28_PlanSound.l1 (k + 1) y0 y1 y2 y3 y4)) ∧ (∀ y0 y1 y2 y3, LeO (monticulelaw28_PlanSound.l2 k y0 y1 y2 y3) (monticulelaw28_PlanSound.l2 (k + 1) y0 y1 y2 y3)) ∧ (∀ y0 y1 y2 y3 y4, LeO (monticulelaw28_PlanSound.j4 k y0 y1 y2 y3 y4) (monticulelaw28_PlanSound.j4 (k + 1) y0 y1 y2 y3 y4)) ∧ (∀ y0 y1 y2 y3 y4 y5 y6 y7 y8, LeO (monticulelaw28_PlanSound.l3 k y0 y1 y2 y3 y4 y5 y6 y7 y8) (monticulelaw28_PlanSound.l3 (k + 1) y0 y1 y2 y3 y4 y5 y6 y7 y8)) ∧ (∀ y0 y1 y2 y3 y4 y5 y6 y7 y8, LeO (monticulelaw28_PlanSound.l4 k y0 y1 y2 y3 y4 y5 y6 y7 y8) (monticulelaw28_PlanSound.l4 (k + 1) y0 y1 y2 y3 y4 y5 y6 y7 y8))
  | 0 => ⟨fun _ _ _ r h => by simp [monticulelaw28_PlanSound.j0] at h, fun _ _ _ _ r h => by simp [monticulelaw28_PlanSound.l0] at h, fun _ _ _ _ _ r h => by simp [monticulelaw28_PlanSound.l1] at h, fun _ _ _ _ r h => by simp [monticulelaw28_PlanSound.l2] at h, fun _ _ _ _ _ r h => by simp [monticulelaw28_PlanSound.j4] at h, fun _ _ _ _ _ _ _ _ _ r h => by simp [monticulelaw28_PlanSound.l3] at h, fun _ _ _ _ _ _ _ _ _ r h => by simp [monticulelaw28_PlanSound.l4] at h⟩
  | k + 1 => by
    obtain ⟨ih0, ih1, ih2, ih3, ih4, ih5, ih6⟩ := monticulelaw28_PlanSound.mono_l k
    refine ⟨?_, ?_, ?_, ?_, ?_, ?_, ?_⟩
    · intro y0 y1 y2
      unfold monticulelaw28_PlanSound.j0
      repeat' first
      | (with_reducible exact ih0 _ _ _)
      | (with_reducible exact ih1 _ _ _ _)
      | (with_reducible exact ih2 _ _ _ _ _)
      | (with_reducible exact ih3 _ _ _ _)
      | (with_reducible exact ih4 _ _ _ _ _)
      | (with_reducible exact ih5 _ _ _ _ _ _ _ _ _)
      | (with_reducible exact ih6 _ _ _ _ _ _ _ _ _)
      | (with_reducible exact monticulelaw28_awake.mono _)
      | (with_reducible exact monticulelaw28_few.mono _ _)
      | (with_reducible exact monticuleref06_In.mono _ _ _)
      | (with_reducible exact monticuleref28_Few.mono _ _ _)
      | (with_reducible exact plan_Order.mono _ _ _)
      | (with_reducible exact LeO.refl _)
      | (with_reducible exact LeO.none _)
      | (with_reducible refine LeO.ite ?_ ?_)
      | (with_reducible refine LeO.bind ?_ (fun _ => ?_))
      | exact ih0 _ _ _
      | exact ih1 _ _ _ _
      | exact ih2 _ _ _ _ _
      | exact ih3 _ _ _ _
      | exact ih4 _ _ _ _ _
      | exact ih5 _ _ _ _ _ _ _ _ _
      | exact ih6 _ _ _ _ _ _ _ _ _
      | exact monticulelaw28_awake.mono _
      | exact monticulelaw28_few.mono _ _
      | exact monticuleref06_In.mono _ _ _
      | exact monticuleref28_Few.mono _ _ _
      | exact plan_Order.mono _ _ _
      | exact LeO.none _
      | refine LeO.ite ?_ ?_
      | refine LeO.bind ?_ (fun _ => ?_)
    · intro y0 y1 y2 y3
      unfold monticulelaw28_PlanSound.l0
      repeat' first
      | (with_reducible exact ih0 _ _ _)
      | (with_reducible exact ih1 _ _ _ _)
      | (with_reducible exact ih2 _ _ _ _ _)
      | (with_reducible exact ih3 _ _ _ _)
      | (with_reducible exact ih4 _ _ _ _ _)
      | (with_reducible exact ih5 _ _ _ _ _ _ _ _ _)
      | (with_reducible exact ih6 _ _ _ _ _ _ _ _ _)
      | (with_reducible exact monticulelaw28_awake.mono _)
      | (with_reducible exact monticulelaw28_few.mono _ _)
      | (with_reducible exact monticuleref06_In.mono _ _ _)
      | (with_reducible exact monticuleref28_Few.mono _ _ _)
      | (with_reducible exact plan_Order.mono _ _ _)
      | (with_reducible exact LeO.refl _)
      | (with_reducible exact LeO.none _)
      | (with_reducible refine LeO.ite ?_ ?_)
      | (with_reducible refine LeO.bind ?_ (fun _ => ?_))
      | exact ih0 _ _ _
      | exact ih1 _ _ _ _
      | exact ih2 _ _ _ _ _
      | exact ih3 _ _ _ _
      | exact ih4 _ _ _ _ _
      | exact ih5 _ _ _ _ _ _ _ _ _
      | exact ih6 _ _ _ _ _ _ _ _ _
      | exact monticulelaw28_awake.mono _
      | exact monticulelaw28_few.mono _ _
      | exact monticuleref06_In.mono _ _ _
      | exact monticuleref28_Few.mono _ _ _
      | exact plan_Order.mono _ _ _
      | exact LeO.none _
      | refine LeO.ite ?_ ?_
      | refine LeO.bind ?_ (fun _ => ?_)
    · intro y0 y1 y2 y3 y4
      unfold monticulelaw28_PlanSound.l1
      repeat' first
      | (with_reducible exact ih0 _ _ _)
      | (with_reducible exact ih1 _ _ _ _)
      | (with_reducible exact ih2 _ _ _ _ _)
      | (with_reducible exact ih3 _ _ _ _)
      | (with_reducible exact ih4 _ _ _ _ _)
      | (with_reducible exact ih5 _ _ _ _ _ _ _ _ _)
      | (with_reducible exact ih6 _ _ _ _ _ _ _ _ _)
      | (with_reducible exact monticulelaw28_awake.mono _)
      | (with_reducible exact monticulelaw28_few.mono _ _)
      | (with_reducible exact monticuleref06_In.mono _ _ _)
      | (with_reducible exact monticuleref28_Few.mono _ _ _)
      | (with_reducible exact plan_Order.mono _ _ _)
      | (with_reducible exact LeO.refl _)
      | (with_reducible exact LeO.none _)
      | (with_reducible refine LeO.ite ?_ ?_)
      | (with_reducible refine LeO.bind ?_ (fun _ => ?_))
      | exact ih0 _ _ _
      | exact ih1 _ _ _ _
      | exact ih2 _ _ _ _ _
      | exact ih3 _ _ _ _
      | exact ih4 _ _ _ _ _
      | exact ih5 _ _ _ _ _ _ _ _ _
      | exact ih6 _ _ _ _ _ _ _ _ _
      | exact monticulelaw28_awake.mono _
      | exact monticulelaw28_few.mono _ _
      | exact monticuleref06_In.mono _ _ _
      | exact monticuleref28_Few.mono _ _ _
      | exact plan_Order.mono _ _ _
      | exact LeO.none _
      | refine LeO.ite ?_ ?_
      | refine LeO.bind ?_ (fun _ => ?_)
    · intro y0 y1 y2 y3
      unfold monticulelaw28_PlanSound.l2
      repeat' first
      | (with_reducible exact ih0 _ _ _)
      | (with_reducible exact ih1 _ _ _ _)
      | (with_reducible exact ih2 _ _ _ _ _)
      | (with_reducible exact ih3 _ _ _ _)
      | (with_reducible exact ih4 _ _ _ _ _)
      | (with_reducible exact ih5 _ _ _ _ _ _ _ _ _)
      | (with_reducible exact ih6 _ _ _ _ _ _ _ _ _)
      | (with_reducible exact monticulelaw28_awake.mono _)
      | (with_reducible exact monticulelaw28_few.mono _ _)
      | (with_reducible exact monticuleref06_In.mono _ _ _)
      | (with_reducible exact monticuleref28_Few.mono _ _ _)
      | (with_reducible exact plan_Order.mono _ _ _)
      | (with_reducible exact LeO.refl _)
      | (with_reducible exact LeO.none _)
      | (with_reducible refine LeO.ite ?_ ?_)
      | (with_reducible refine LeO.bind ?_ (fun _ => ?_))
      | exact ih0 _ _ _
      | exact ih1 _ _ _ _
      | exact ih2 _ _ _ _ _
      | exact ih3 _ _ _ _
      | exact ih4 _ _ _ _ _
      | exact ih5 _ _ _ _ _ _ _ _ _
      | exact ih6 _ _ _ _ _ _ _ _ _
      | exact monticulelaw28_awake.mono _
      | exact monticulelaw28_few.mono _ _
      | exact monticuleref06_In.mono _ _ _
      | exact monticuleref28_Few.mono _ _ _
      | exact plan_Order.mono _ _ _
      | exact LeO.none _
      | refine LeO.ite ?_ ?_
      | refine LeO.bind ?_ (fun _ => ?_)
    · intro y0 y1 y2 y3 y4
      unfold monticulelaw28_PlanSound.j4
      repeat' first
      | (with_reducible exact ih0 _ _ _)
      | (with_reducible exact ih1 _ _ _ _)
      | (with_reducible exact ih2 _ _ _ _ _)
      | (with_reducible exact ih3 _ _ _ _)
      | (with_reducible exact ih4 _ _ _ _ _)
      | (with_reducible exact ih5 _ _ _ _ _ _ _ _ _)
      | (with_reducible exact ih6 _ _ _ _ _ _ _ _ _)
      | (with_reducible exact monticulelaw28_awake.mono _)
      | (with_reducible exact monticulelaw28_few.mono _ _)
      | (with_reducible exact monticuleref06_In.mono _ _ _)
      | (with_reducible exact monticuleref28_Few.mono _ _ _)
      | (with_reducible exact plan_Order.mono _ _ _)
      | (with_reducible exact LeO.refl _)
      | (with_reducible exact LeO.none _)
      | (with_reducible refine LeO.ite ?_ ?_)
      | (with_reducible refine LeO.bind ?_ (fun _ => ?_))
      | exact ih0 _ _ _
      | exact ih1 _ _ _ _
      | exact ih2 _ _ _ _ _
      | exact ih3 _ _ _ _
      | exact ih4 _ _ _ _ _
      | exact ih5 _ _ _ _ _ _ _ _ _
      | exact ih6 _ _ _ _ _ _ _ _ _
      | exact monticulelaw28_awake.mono _
      | exact monticulelaw28_few.mono _ _
      | exact monticuleref06_In.mono _ _ _
      | exact monticuleref28_Few.mono _ _ _
      | exact plan_Order.mono _ _ _
      | exact LeO.none _
      | refine LeO.ite ?_ ?_
      | refine LeO.bind ?_ (fun _ => ?_)
    · intro y0 y1 y2 y3 y4 y5 y6 y7 y8
      unfold monticulelaw28_PlanSound.l3
      repeat' first
      | (with_reducible exact ih0 _ _ _)
      | (with_reducible exact ih1 _ _ _ _)
      | (with_reducible exact ih2 _ _ _ _ _)
      | (with_reducible exact ih3 _ _ _ _)
      | (with_reducible exact ih4 _ _ _ _ _)
      | (with_reducible exact ih5 _ _ _ _ _ _ _ _ _)
      | (with_reducible exact ih6 _ _ _ _ _ _ _ _ _)
      | (with_reducible exact monticulelaw28_awake.mono _)
      | (with_reducible exact monticulelaw28_few.mono _ _)
      | (with_reducible exact monticuleref06_In.mono _ _ _)
      | (with_reducible exact monticuleref28_Few.mono _ _ _)
      | (with_reducible exact plan_Order.mono _ _ _)
      | (with_reducible exact LeO.refl _)
      | (with_reducible exact LeO.none _)
      | (with_reducible refine LeO.ite ?_ ?_)
      | (with_reducible refine LeO.bind ?_ (fun _ => ?_))
      | exact ih0 _ _ _
      | exact ih1 _ _ _ _
      | exact ih2 _ _ _ _ _
      | exact ih3 _ _ _ _
      | exact ih4 _ _ _ _ _
      | exact ih5 _ _ _ _ _ _ _ _ _
      | exact ih6 _ _ _ _ _ _ _ _ _
      | exact monticulelaw28_awake.mono _
      | exact monticulelaw28_few.mono _ _
      | exact monticuleref06_In.mono _ _ _
      | exact monticuleref28_Few.mono _ _ _
      | exact plan_Order.mono _ _ _
      | exact LeO.none _
      | refine LeO.ite ?_ ?_
      | refine LeO.bind ?_ (fun _ => ?_)
    · intro y0 y1 y2 y3 y4 y5 y6 y7 y8
      unfold monticulelaw28_PlanSound.l4
      repeat' first
      | (with_reducible exact ih0 _ _ _)
      | (with_reducible exact ih1 _ _ _ _)
      | (with_reducible exact ih2 _ _ _ _ _)
      | (with_reducible exact ih3 _ _ _ _)
      | (with_reducible exact ih4 _ _ _ _ _)
      | (with_reducible exact ih5 _ _ _ _ _ _ _ _ _)
      | (with_reducible exact ih6 _ _ _ _ _ _ _ _ _)
      | (with_reducible exact monticulelaw28_awake.mono _)
      | (with_reducible exact monticulelaw28_few.mono _ _)
      | (with_reducible exact monticuleref06_In.mono _ _ _)
      | (with_reducible exact monticuleref28_Few.mono _ _ _)
      | (with_reducible exact plan_Order.mono _ _ _)
      | (with_reducible exact LeO.refl _)
      | (with_reducible exact LeO.none _)
      | (with_reducible refine LeO.ite ?_ ?_)
      | (with_reducible refine LeO.bind ?_ (fun _ => ?_))
      | exact ih0 _ _ _
      | exact ih1 _ _ _ _
      | exact ih2 _ _ _ _ _
      | exact ih3 _ _ _ _
      | exact ih4 _ _ _ _ _
      | exact ih5 _ _ _ _ _ _ _ _ _
      | exact ih6 _ _ _ _ _ _ _ _ _
      | exact monticulelaw28_awake.mono _
      | exact monticulelaw28_few.mono _ _
      | exact monticuleref06_In.mono _ _ _
      | exact monticuleref28_Few.mono _ _ _
      | exact plan_Order.mono _ _ _
      | exact LeO.none _
      | refine LeO.ite ?_ ?_
      | refine LeO.bind ?_ (fun _ => ?_)
theorem monticulelaw28_PlanSound.mono : ∀ a0 a1 k, LeO (monticulelaw28_PlanSound.f k a0 a1) (monticulelaw28_PlanSound.f (k + 1) a0 a1) := by
  intro a0 a1 k
  obtain ⟨ih0, ih1, ih2, ih3, ih4, ih5, ih6⟩ := monticulelaw28_PlanSound.mono_l k
  unfold monticulelaw28_PlanSound.f
  repeat' first
      | (with_reducible exact ih0 _ _ _)
      | (with_reducible exact ih1 _ _ _ _)
      | (with_reducible exact ih2 _ _ _ _ _)
      | (with_reducible exact ih3 _ _ _ _)
      | (with_reducible exact ih4 _ _ _ _ _)
      | (with_reducible exact ih5 _ _ _ _ _ _ _ _ _)
      | (with_reducible exact ih6 _ _ _ _ _ _ _ _ _)
      | (with_reducible exact monticulelaw28_awake.mono _)
      | (with_reducible exact monticulelaw28_few.mono _ _)
      | (with_reducible exact monticuleref06_In.mono _ _ _)
      | (with_reducible exact monticuleref28_Few.mono _ _ _)
      | (with_reducible exact plan_Order.mono _ _ _)
      | (with_reducible exact LeO.refl _)
      | (with_reducible exact LeO.none _)
      | (with_reducible refine LeO.ite ?_ ?_)
      | (with_reducible refine LeO.bind ?_ (fun _ => ?_))
      | exact ih0 _ _ _
      | exact ih1 _ _ _ _
      | exact ih2 _ _ _ _ _
      | exact ih3 _ _ _ _
      | exact ih4 _ _ _ _ _
      | exact ih5 _ _ _ _ _ _ _ _ _
      | exact ih6 _ _ _ _ _ _ _ _ _
      | exact monticulelaw28_awake.mono _
      | exact monticulelaw28_few.mono _ _
      | exact monticuleref06_In.mono _ _ _
      | exact monticuleref28_Few.mono _ _ _
      | exact plan_Order.mono _ _ _
      | exact LeO.none _
      | refine LeO.ite ?_ ?_
      | refine LeO.bind ?_ (fun _ => ?_)
set_option maxHeartbeats 8000000 in
set_option maxRecDepth 100000 in
theorem monticulelaw28_PlanSound.calls (k : Nat) (A0 : Option Addr) (c0 : Nat) (l0 : List ByteArray) (A1 : Option Addr) (c1 : Nat) (l1 : List (S34)) (r : Bool) (w : World) (hr0 : Kd.C Kd.string w A0 l0.length l0) (hc0 : l0.length ≤ c0) (hr1 : Kd.C k34 w A1 l1.length l1) (hc1 : l1.length ≤ c1) (h : monticulelaw28_PlanSound.f k l0 l1 = some r) :
    Calls Tryd.prog 3 #[.slice A0 l0.length c0, .slice A1 l1.length c1] w fun e w' => e = .returned (.bool r) ∧ Below w.heap.size w w' := by
  have hu34 := Tryd.underlying34
  have HR0 := Aside0.mk hr0
  have HC0 := Aside0.mk hc0
  clear hr0 hc0
  have HR1 := Aside0.mk hr1
  have HC1 := Aside0.mk hc1
  clear hr1 hc1
  have HB := Aside0.mk (Below.refl w.heap.size w)
  have H : ((monticulelaw28_awake.f k).bind fun t203 => (if t203 = true then ((monticulelaw28_few.f k l0).bind fun t204 => (if t204 = true then ((monticuleref28_Few.f k l1 8).bind fun t205 => (monticulelaw28_PlanSound.j0 k l0 l1 (!t205))) else (monticulelaw28_PlanSound.j0 k l0 l1 true))) else (monticulelaw28_PlanSound.j0 k l0 l1 true))) = some r := h
  clear h
  have HC3 := Aside0.mk H
  clear H
  go_enter Tryd.func3, Tryd.ntmps3
  go_upto_region 1 with (fail)
  repeat (go_quiet (fail); go_upto_region 1 with (fail))
  go_cut [27] (fun v27 wc => ∃ (kq : Nat) (x27_2 : Bool), v27 = .bool x27_2 ∧ Aside0 (monticulelaw28_PlanSound.j0 kq l0 l1 x27_2 = some r) ∧ Aside0 (kq ≤ k) ∧ Aside0 (Below w.heap.size w wc))
  case first =>
    have H := HC3.out
    clear HC3
    replace H := Option.bind_eq_some_iff.mp H
    obtain ⟨t203, A40, H⟩ := H
    replace H : (if t203 = true then ((monticulelaw28_few.f k l0).bind fun t204 => (if t204 = true then ((monticuleref28_Few.f k l1 8).bind fun t205 => (monticulelaw28_PlanSound.j0 k l0 l1 (!t205))) else (monticulelaw28_PlanSound.j0 k l0 l1 true))) else (monticulelaw28_PlanSound.j0 k l0 l1 true)) = some r := H
    have A4 := Aside0.mk A40
    clear A40
    by_cases c5 : t203 = true
    · subst c5
      have H1 : ((monticulelaw28_few.f k l0).bind fun t204 => (if t204 = true then ((monticuleref28_Few.f k l1 8).bind fun t205 => (monticulelaw28_PlanSound.j0 k l0 l1 (!t205))) else (monticulelaw28_PlanSound.j0 k l0 l1 true))) = some r := by rw [if_pos rfl] at H; exact H
      clear H
      have H := H1
      clear H1
      replace H := Option.bind_eq_some_iff.mp H
      obtain ⟨t204, A60, H⟩ := H
      replace H : (if t204 = true then ((monticuleref28_Few.f k l1 8).bind fun t205 => (monticulelaw28_PlanSound.j0 k l0 l1 (!t205))) else (monticulelaw28_PlanSound.j0 k l0 l1 true)) = some r := H
      have A6 := Aside0.mk A60
      clear A60
      by_cases c7 : t204 = true
      · subst c7
        have H1 : ((monticuleref28_Few.f k l1 8).bind fun t205 => (monticulelaw28_PlanSound.j0 k l0 l1 (!t205))) = some r := by rw [if_pos rfl] at H; exact H
        clear H
        have H := H1
        clear H1
        replace H := Option.bind_eq_some_iff.mp H
        obtain ⟨t205, A80, H⟩ := H
        replace H : (monticulelaw28_PlanSound.j0 k l0 l1 (!t205)) = some r := H
        have A8 := Aside0.mk A80
        clear A80
        have H' := Aside0.mk H
        clear H
        go_wp2_with (first | (go_at_call 7; (with_reducible refine (monticulelaw28_awake.calls k  true _ A4.out).mono ?_); rintro e w9 ⟨rfl, hb⟩; have n0_ := Aside0.mk (below_step (by repeat (first | (with_reducible first | exact HB.out | apply below_alloc | apply pw_below_drewN | apply below_drew1) | exact HB.out)) hb); clear HB; have HB := n0_; clear n0_; (try clear hb); (try clear hb2); (try clear hk); (try clear hi)) | (go_at_call 8; (with_reducible refine (monticulelaw28_few.calls k _ _ l0 true _ ?side1 ?side2 A6.out).mono ?_); (case side1 => repeat (first | exact (Kd.C_below HR0.out HB.out) | (with_reducible refine Kd.C_alloc ?_ _) | (with_reducible refine Kd.C_drewN ?_ _) | (with_reducible refine Kd.C_drew ?_))); (case side2 => exact HC0.out); rintro e w' ⟨rfl, ⟨nd, rfl⟩⟩; (try first | exact ⟨rfl, _, World.drewN_drewN _ _ _⟩ | exact ⟨rfl, _, Eq.trans (World.drewN_drewN _ _ _) (congrArg (World.drewN _) (Nat.add_assoc _ _ _))⟩)) | (go_at_call 9; (with_reducible refine (monticuleref28_Few.calls k _ _ l1 8 t205 _ ?side1 ?side2 A8.out).mono ?_); (case side1 => repeat (first | exact (Kd.C_below HR1.out (by repeat (first | (with_reducible first | exact HB.out | apply below_alloc | apply pw_below_drewN | apply below_drew1) | exact HB.out))) | (with_reducible refine Kd.C_alloc ?_ _) | (with_reducible refine Kd.C_drewN ?_ _) | (with_reducible refine Kd.C_drew ?_))); (case side2 => exact HC1.out); rintro e w10 ⟨rfl, hb⟩; have n0_ := Aside0.mk (below_step (by repeat (first | (with_reducible first | exact HB.out | apply below_alloc | apply pw_below_drewN | apply below_drew1) | exact HB.out)) hb); clear HB; have HB := n0_; clear n0_; (try clear hb); (try clear hb2); (try clear hk); (try clear hi)))
        repeat (go_quiet (first | (go_at_call 7; (with_reducible refine (monticulelaw28_awake.calls k  true _ A4.out).mono ?_); rintro e w9 ⟨rfl, hb⟩; have n0_ := Aside0.mk (below_step (by repeat (first | (with_reducible first | exact HB.out | apply below_alloc | apply pw_below_drewN | apply below_drew1) | exact HB.out)) hb); clear HB; have HB := n0_; clear n0_; (try clear hb); (try clear hb2); (try clear hk); (try clear hi)) | (go_at_call 8; (with_reducible refine (monticulelaw28_few.calls k _ _ l0 true _ ?side1 ?side2 A6.out).mono ?_); (case side1 => repeat (first | exact (Kd.C_below HR0.out HB.out) | (with_reducible refine Kd.C_alloc ?_ _) | (with_reducible refine Kd.C_drewN ?_ _) | (with_reducible refine Kd.C_drew ?_))); (case side2 => exact HC0.out); rintro e w' ⟨rfl, ⟨nd, rfl⟩⟩; (try first | exact ⟨rfl, _, World.drewN_drewN _ _ _⟩ | exact ⟨rfl, _, Eq.trans (World.drewN_drewN _ _ _) (congrArg (World.drewN _) (Nat.add_assoc _ _ _))⟩)) | (go_at_call 9; (with_reducible refine (monticuleref28_Few.calls k _ _ l1 8 t205 _ ?side1 ?side2 A8.out).mono ?_); (case side1 => repeat (first | exact (Kd.C_below HR1.out (by repeat (first | (with_reducible first | exact HB.out | apply below_alloc | apply pw_below_drewN | apply below_drew1) | exact HB.out))) | (with_reducible refine Kd.C_alloc ?_ _) | (with_reducible refine Kd.C_drewN ?_ _) | (with_reducible refine Kd.C_drew ?_))); (case side2 => exact HC1.out); rintro e w10 ⟨rfl, hb⟩; have n0_ := Aside0.mk (below_step (by repeat (first | (with_reducible first | exact HB.out | apply below_alloc | apply pw_below_drewN | apply below_drew1) | exact HB.out)) hb); clear HB; have HB := n0_; clear n0_; (try clear hb); (try clear hb2); (try clear hk); (try clear hi))); try go_wp2_with (first | (go_at_call 7; (with_reducible refine (monticulelaw28_awake.calls k  true _ A4.out).mono ?_); rintro e w9 ⟨rfl, hb⟩; have n0_ := Aside0.mk (below_step (by repeat (first | (with_reducible first | exact HB.out | apply below_alloc | apply pw_below_drewN | apply below_drew1) | exact HB.out)) hb); clear HB; have HB := n0_; clear n0_; (try clear hb); (try clear hb2); (try clear hk); (try clear hi)) | (go_at_call 8; (with_reducible refine (monticulelaw28_few.calls k _ _ l0 true _ ?side1 ?side2 A6.out).mono ?_); (case side1 => repeat (first | exact (Kd.C_below HR0.out HB.out) | (with_reducible refine Kd.C_alloc ?_ _) | (with_reducible refine Kd.C_drewN ?_ _) | (with_reducible refine Kd.C_drew ?_))); (case side2 => exact HC0.out); rintro e w' ⟨rfl, ⟨nd, rfl⟩⟩; (try first | exact ⟨rfl, _, World.drewN_drewN _ _ _⟩ | exact ⟨rfl, _, Eq.trans (World.drewN_drewN _ _ _) (congrArg (World.drewN _) (Nat.add_assoc _ _ _))⟩)) | (go_at_call 9; (with_reducible refine (monticuleref28_Few.calls k _ _ l1 8 t205 _ ?side1 ?side2 A8.out).mono ?_); (case side1 => repeat (first | exact (Kd.C_below HR1.out (by repeat (first | (with_reducible first | exact HB.out | apply below_alloc | apply pw_below_drewN | apply below_drew1) | exact HB.out))) | (with_reducible refine Kd.C_alloc ?_ _) | (with_reducible refine Kd.C_drewN ?_ _) | (with_reducible refine Kd.C_drew ?_))); (case side2 => exact HC1.out); rintro e w10 ⟨rfl, hb⟩; have n0_ := Aside0.mk (below_step (by repeat (first | (with_reducible first | exact HB.out | apply below_alloc | apply pw_below_drewN | apply below_drew1) | exact HB.out)) hb); clear HB; have HB := n0_; clear n0_; (try clear hb); (try clear hb2); (try clear hk); (try clear hi))))
        go_meet
        case rel => exact ⟨_, (!t205), (by first | rfl | (simp; done) | (simp [*]; done)), H', ⟨by first | omega | exact Nat.le_refl _⟩, ⟨by repeat (first | (with_reducible first | exact HB.out | apply below_alloc | apply pw_below_drewN | apply below_drew1) | exact HB.out)⟩⟩
      · replace c7 := Bool.eq_false_iff.mpr c7
        subst c7
        have H1 : (monticulelaw28_PlanSound.j0 k l0 l1 true) = some r := by rw [if_neg (show ¬ (false = true) by decide)] at H; exact H
        clear H
        have H := H1
        clear H1
        have H' := Aside0.mk H
        clear H
        go_wp2_with (first | (go_at_call 7; (with_reducible refine (monticulelaw28_awake.calls k  true _ A4.out).mono ?_); rintro e w11 ⟨rfl, hb⟩; have n0_ := Aside0.mk (below_step (by repeat (first | (with_reducible first | exact HB.out | apply below_alloc | apply pw_below_drewN | apply below_drew1) | exact HB.out)) hb); clear HB; have HB := n0_; clear n0_; (try clear hb); (try clear hb2); (try clear hk); (try clear hi)) | (go_at_call 8; (with_reducible refine (monticulelaw28_few.calls k _ _ l0 false _ ?side1 ?side2 A6.out).mono ?_); (case side1 => repeat (first | exact (Kd.C_below HR0.out HB.out) | (with_reducible refine Kd.C_alloc ?_ _) | (with_reducible refine Kd.C_drewN ?_ _) | (with_reducible refine Kd.C_drew ?_))); (case side2 => exact HC0.out); rintro e w' ⟨rfl, ⟨nd, rfl⟩⟩; (try first | exact ⟨rfl, _, World.drewN_drewN _ _ _⟩ | exact ⟨rfl, _, Eq.trans (World.drewN_drewN _ _ _) (congrArg (World.drewN _) (Nat.add_assoc _ _ _))⟩)))
        repeat (go_quiet (first | (go_at_call 7; (with_reducible refine (monticulelaw28_awake.calls k  true _ A4.out).mono ?_); rintro e w11 ⟨rfl, hb⟩; have n0_ := Aside0.mk (below_step (by repeat (first | (with_reducible first | exact HB.out | apply below_alloc | apply pw_below_drewN | apply below_drew1) | exact HB.out)) hb); clear HB; have HB := n0_; clear n0_; (try clear hb); (try clear hb2); (try clear hk); (try clear hi)) | (go_at_call 8; (with_reducible refine (monticulelaw28_few.calls k _ _ l0 false _ ?side1 ?side2 A6.out).mono ?_); (case side1 => repeat (first | exact (Kd.C_below HR0.out HB.out) | (with_reducible refine Kd.C_alloc ?_ _) | (with_reducible refine Kd.C_drewN ?_ _) | (with_reducible refine Kd.C_drew ?_))); (case side2 => exact HC0.out); rintro e w' ⟨rfl, ⟨nd, rfl⟩⟩; (try first | exact ⟨rfl, _, World.drewN_drewN _ _ _⟩ | exact ⟨rfl, _, Eq.trans (World.drewN_drewN _ _ _) (congrArg (World.drewN _) (Nat.add_assoc _ _ _))⟩))); try go_wp2_with (first | (go_at_call 7; (with_reducible refine (monticulelaw28_awake.calls k  true _ A4.out).mono ?_); rintro e w11 ⟨rfl, hb⟩; have n0_ := Aside0.mk (below_step (by repeat (first | (with_reducible first | exact HB.out | apply below_alloc | apply pw_below_drewN | apply below_drew1) | exact HB.out)) hb); clear HB; have HB := n0_; clear n0_; (try clear hb); (try clear hb2); (try clear hk); (try clear hi)) | (go_at_call 8; (with_reducible refine (monticulelaw28_few.calls k _ _ l0 false _ ?side1 ?side2 A6.out).mono ?_); (case side1 => repeat (first | exact (Kd.C_below HR0.out HB.out) | (with_reducible refine Kd.C_alloc ?_ _) | (with_reducible refine Kd.C_drewN ?_ _) | (with_reducible refine Kd.C_drew ?_))); (case side2 => exact HC0.out); rintro e w' ⟨rfl, ⟨nd, rfl⟩⟩; (try first | exact ⟨rfl, _, World.drewN_drewN _ _ _⟩ | exact ⟨rfl, _, Eq.trans (World.drewN_drewN _ _ _) (congrArg (World.drewN _) (Nat.add_assoc _ _ _))⟩))))
        go_meet
        case rel => exact ⟨_, (true), (by first | rfl | (simp; done) | (simp [*]; done)), H', ⟨by first | omega | exact Nat.le_refl _⟩, ⟨by repeat (first | (with_reducible first | exact HB.out | apply below_alloc | apply pw_below_drewN | apply below_drew1) | exact HB.out)⟩⟩
    · replace c5 := Bool.eq_false_iff.mpr c5
      subst c5
      have H1 : (monticulelaw28_PlanSound.j0 k l0 l1 true) = some r := by rw [if_neg (show ¬ (false = true) by decide)] at H; exact H
      clear H
      have H := H1
      clear H1
      have H' := Aside0.mk H
      clear H
      go_wp2_with (first | (go_at_call 7; (with_reducible refine (monticulelaw28_awake.calls k  false _ A4.out).mono ?_); rintro e w12 ⟨rfl, hb⟩; have n0_ := Aside0.mk (below_step (by repeat (first | (with_reducible first | exact HB.out | apply below_alloc | apply pw_below_drewN | apply below_drew1) | exact HB.out)) hb); clear HB; have HB := n0_; clear n0_; (try clear hb); (try clear hb2); (try clear hk); (try clear hi)))
      repeat (go_quiet (first | (go_at_call 7; (with_reducible refine (monticulelaw28_awake.calls k  false _ A4.out).mono ?_); rintro e w12 ⟨rfl, hb⟩; have n0_ := Aside0.mk (below_step (by repeat (first | (with_reducible first | exact HB.out | apply below_alloc | apply pw_below_drewN | apply below_drew1) | exact HB.out)) hb); clear HB; have HB := n0_; clear n0_; (try clear hb); (try clear hb2); (try clear hk); (try clear hi))); try go_wp2_with (first | (go_at_call 7; (with_reducible refine (monticulelaw28_awake.calls k  false _ A4.out).mono ?_); rintro e w12 ⟨rfl, hb⟩; have n0_ := Aside0.mk (below_step (by repeat (first | (with_reducible first | exact HB.out | apply below_alloc | apply pw_below_drewN | apply below_drew1) | exact HB.out)) hb); clear HB; have HB := n0_; clear n0_; (try clear hb); (try clear hb2); (try clear hk); (try clear hi))))
      go_meet
      case rel => exact ⟨_, (true), (by first | rfl | (simp; done) | (simp [*]; done)), H', ⟨by first | omega | exact Nat.le_refl _⟩, ⟨by repeat (first | (with_reducible first | exact HB.out | apply below_alloc | apply pw_below_drewN | apply below_drew1) | exact HB.out)⟩⟩
  case rest =>
    clear HC3
    try clear c1
    try clear p2
    try clear c3
    try clear c5
    try clear c7
    obtain ⟨kq, x27_2, rfl, HA, HJ2, HB⟩ := hcut
    cases kq with
    | zero => exact absurd HA.out (by simp [monticulelaw28_PlanSound.j0])
    | succ kj2 =>
      have H := HA.out
      clear HA
      simp only [monticulelaw28_PlanSound.j0] at H
      by_cases c13 : x27_2 = true
      · subst c13
        have H1 : ((monticulelaw28_awake.f kj2).bind fun t206 => (some t206)) = some r := by rw [if_pos rfl] at H; exact H
        clear H
        have H := H1
        clear H1
        replace H := Option.bind_eq_some_iff.mp H
        obtain ⟨t206, A140, H⟩ := H
        replace H : (some t206) = some r := H
        have A14 := Aside0.mk A140
        clear A140
        obtain rfl := Option.some.inj H
        go_wp2_with (first | (go_at_call 7; (with_reducible refine (monticulelaw28_awake.calls kj2  t206 _ A14.out).mono ?_); rintro e w15 ⟨rfl, hb⟩; have n0_ := Aside0.mk (below_step (by repeat (first | (with_reducible first | exact HB.out | apply below_alloc | apply pw_below_drewN | apply below_drew1) | exact HB.out)) hb); clear HB; have HB := n0_; clear n0_; (try clear hb); (try clear hb2); (try clear hk); (try clear hi)))
        repeat (go_quiet (first | (go_at_call 7; (with_reducible refine (monticulelaw28_awake.calls kj2  t206 _ A14.out).mono ?_); rintro e w15 ⟨rfl, hb⟩; have n0_ := Aside0.mk (below_step (by repeat (first | (with_reducible first | exact HB.out | apply below_alloc | apply pw_below_drewN | apply below_drew1) | exact HB.out)) hb); clear HB; have HB := n0_; clear n0_; (try clear hb); (try clear hb2); (try clear hk); (try clear hi))); try go_wp2_with (first | (go_at_call 7; (with_reducible refine (monticulelaw28_awake.calls kj2  t206 _ A14.out).mono ?_); rintro e w15 ⟨rfl, hb⟩; have n0_ := Aside0.mk (below_step (by repeat (first | (with_reducible first | exact HB.out | apply below_alloc | apply pw_below_drewN | apply below_drew1) | exact HB.out)) hb); clear HB; have HB := n0_; clear n0_; (try clear hb); (try clear hb2); (try clear hk); (try clear hi))))
        go_ret
        exact ⟨by first | rfl | (simp [errW_none, errW_some] <;> rfl) | (simp [*, errW_none, errW_some] <;> rfl), by repeat (first | (with_reducible first | exact HB.out | apply below_alloc | apply pw_below_drewN | apply below_drew1) | exact HB.out)⟩
      · replace c13 := Bool.eq_false_iff.mpr c13
        subst c13
        have H1 : ((plan_Order.f kj2 l0 l1).bind fun bt207 => (if bt207.2.1 = 71 then (monticulelaw28_PlanSound.l0 kj2 l1 bt207.2.2 (([bt207.2.2] : List ByteArray)) 0) else (if bt207.2.1 = 0 then ((some (([] : List ByteArray) : List ByteArray)).bind fun y226 => (if y226.length + l0.length < 8796093022208 then (monticulelaw28_PlanSound.l2 kj2 l1 bt207.1 (y226 ++ l0) 0) else (none))) else (some ((bt207.1.length : Int) == 0))))) = some r := by rw [if_neg (show ¬ (false = true) by decide)] at H; exact H
        clear H
        have H := H1
        clear H1
        replace H := Option.bind_eq_some_iff.mp H
        obtain ⟨⟨t207, t208, t209⟩, A160, H⟩ := H
        replace H : (if t208 = 71 then (monticulelaw28_PlanSound.l0 kj2 l1 t209 (([t209] : List ByteArray)) 0) else (if t208 = 0 then ((some (([] : List ByteArray) : List ByteArray)).bind fun y226 => (if y226.length + l0.length < 8796093022208 then (monticulelaw28_PlanSound.l2 kj2 l1 t207 (y226 ++ l0) 0) else (none))) else (some ((t207.length : Int) == 0)))) = some r := H
        have A16 := Aside0.mk A160
        clear A160
        by_cases c17 : t208 = 71
        · rw [if_pos c17] at H
          have c17b0 : (t208 == 71) = true := beq_iff_eq.mpr c17
          have c17b1 : (t208 != 71) = false := bne_eq_false_iff_eq.mpr c17
          clear c17
          obtain ⟨y212, hy212⟩ : ∃ y_ : List ByteArray, y_ = (([t209] : List ByteArray)) := ⟨_, rfl⟩
          replace H : (monticulelaw28_PlanSound.l0 kj2 l1 t209 y212 0) = some r := by first | (rw [hy212]; with_reducible exact H) | (have H2_ := (Option.bind_some _ _).symm.trans H; rw [hy212]; with_reducible exact H2_) | (have H2_ := (Option.bind_some _ _).symm.trans H; with_reducible exact H2_) | with_reducible exact H | (rw [hy212]; exact H) | exact H
          have Ny212 := Aside0.mk hy212
          clear hy212
          have H' := Aside0.mk H
          clear H
          go_wp2_with (first | (go_at_call 10; (with_reducible refine (plan_Order.calls kj2 _ _ l0 _ _ l1 t207 t208 t209 _ ?side1 ?side2 ?side3 ?side4 A16.out).mono ?_); (case side1 => repeat (first | exact (Kd.C_below HR0.out HB.out) | (with_reducible refine Kd.C_alloc ?_ _) | (with_reducible refine Kd.C_drewN ?_ _) | (with_reducible refine Kd.C_drew ?_))); (case side2 => exact HC0.out); (case side3 => repeat (first | exact (Kd.C_below HR1.out HB.out) | (with_reducible refine Kd.C_alloc ?_ _) | (with_reducible refine Kd.C_drewN ?_ _) | (with_reducible refine Kd.C_drew ?_))); (case side4 => exact HC1.out); rintro e w18 ⟨v210, rfl, ho0, hb⟩; have n0_ := Aside0.mk (Kd.R_lower ho0 (below_size (by repeat (first | (with_reducible first | exact HB.out | apply below_alloc | apply pw_below_drewN | apply below_drew1) | exact HB.out)))); have n1_ := Aside0.mk (below_step (by repeat (first | (with_reducible first | exact HB.out | apply below_alloc | apply pw_below_drewN | apply below_drew1) | exact HB.out)) hb); clear HB; have HO211 := n0_; have HB := n1_; clear n0_ n1_; (try clear hb); (try clear hb2); (try clear hk); (try clear hi); (try clear ho0)) | ((with_reducible refine gate_dst (N := 39) rfl ?_); (try (refine gate_guard (by rfl) ?_; dsimp only)); refine Kd.R_lit Kd.string _ 9 ?hg (N := 39) ?hd (xs := ([t209] : List ByteArray)) (inner := [.string t209]) (ok := fun _ => True) (okp := fun _ => True) ?hr ?hp (fun _ hk => hk) trivial (Below.refl _ _) (Nat.le_refl _) (by simp) ?_; (case hd => rfl); (case hg => rfl); (case hr => first | (go_simp; done) | (go_simp; rfl)); (case hp => exact (Reps.one (show Kd.M Kd.string _ _ _ t209 [.string t209] from rfl) (Reps.none _ _))); intro v213 w19 ho20 hb hg_ hnew_; clear hg_ hnew_; (first | rw [← Ny212.out] at ho20 | (simp only [Int.reduceToNat] at ho20; rw [← Ny212.out] at ho20)); have n0_ := Aside0.mk (Kd.R_below (by (with_reducible repeat (first | apply Kd.R_alloc | apply Kd.R_drewN | apply Kd.R_drew)); exact HO211.out) hb); have n1_ := Aside0.mk (Kd.R_lower ho20 (below_size (by repeat (first | (with_reducible first | exact HB.out | apply below_alloc | apply pw_below_drewN | apply below_drew1) | exact HB.out)))); have n2_ := Aside0.mk (below_step (by repeat (first | (with_reducible first | exact HB.out | apply below_alloc | apply pw_below_drewN | apply below_drew1) | exact HB.out)) hb); clear HO211; clear HB; have HO211 := n0_; have HO214 := n1_; have HB := n2_; clear n0_ n1_ n2_; clear hb ho20))
          repeat (go_quiet (first | (go_at_call 10; (with_reducible refine (plan_Order.calls kj2 _ _ l0 _ _ l1 t207 t208 t209 _ ?side1 ?side2 ?side3 ?side4 A16.out).mono ?_); (case side1 => repeat (first | exact (Kd.C_below HR0.out HB.out) | (with_reducible refine Kd.C_alloc ?_ _) | (with_reducible refine Kd.C_drewN ?_ _) | (with_reducible refine Kd.C_drew ?_))); (case side2 => exact HC0.out); (case side3 => repeat (first | exact (Kd.C_below HR1.out HB.out) | (with_reducible refine Kd.C_alloc ?_ _) | (with_reducible refine Kd.C_drewN ?_ _) | (with_reducible refine Kd.C_drew ?_))); (case side4 => exact HC1.out); rintro e w18 ⟨v210, rfl, ho0, hb⟩; have n0_ := Aside0.mk (Kd.R_lower ho0 (below_size (by repeat (first | (with_reducible first | exact HB.out | apply below_alloc | apply pw_below_drewN | apply below_drew1) | exact HB.out)))); have n1_ := Aside0.mk (below_step (by repeat (first | (with_reducible first | exact HB.out | apply below_alloc | apply pw_below_drewN | apply below_drew1) | exact HB.out)) hb); clear HB; have HO211 := n0_; have HB := n1_; clear n0_ n1_; (try clear hb); (try clear hb2); (try clear hk); (try clear hi); (try clear ho0)) | ((with_reducible refine gate_dst (N := 39) rfl ?_); (try (refine gate_guard (by rfl) ?_; dsimp only)); refine Kd.R_lit Kd.string _ 9 ?hg (N := 39) ?hd (xs := ([t209] : List ByteArray)) (inner := [.string t209]) (ok := fun _ => True) (okp := fun _ => True) ?hr ?hp (fun _ hk => hk) trivial (Below.refl _ _) (Nat.le_refl _) (by simp) ?_; (case hd => rfl); (case hg => rfl); (case hr => first | (go_simp; done) | (go_simp; rfl)); (case hp => exact (Reps.one (show Kd.M Kd.string _ _ _ t209 [.string t209] from rfl) (Reps.none _ _))); intro v213 w19 ho20 hb hg_ hnew_; clear hg_ hnew_; (first | rw [← Ny212.out] at ho20 | (simp only [Int.reduceToNat] at ho20; rw [← Ny212.out] at ho20)); have n0_ := Aside0.mk (Kd.R_below (by (with_reducible repeat (first | apply Kd.R_alloc | apply Kd.R_drewN | apply Kd.R_drew)); exact HO211.out) hb); have n1_ := Aside0.mk (Kd.R_lower ho20 (below_size (by repeat (first | (with_reducible first | exact HB.out | apply below_alloc | apply pw_below_drewN | apply below_drew1) | exact HB.out)))); have n2_ := Aside0.mk (below_step (by repeat (first | (with_reducible first | exact HB.out | apply below_alloc | apply pw_below_drewN | apply below_drew1) | exact HB.out)) hb); clear HO211; clear HB; have HO211 := n0_; have HO214 := n1_; have HB := n2_; clear n0_ n1_ n2_; clear hb ho20)); try go_wp2_with (first | (go_at_call 10; (with_reducible refine (plan_Order.calls kj2 _ _ l0 _ _ l1 t207 t208 t209 _ ?side1 ?side2 ?side3 ?side4 A16.out).mono ?_); (case side1 => repeat (first | exact (Kd.C_below HR0.out HB.out) | (with_reducible refine Kd.C_alloc ?_ _) | (with_reducible refine Kd.C_drewN ?_ _) | (with_reducible refine Kd.C_drew ?_))); (case side2 => exact HC0.out); (case side3 => repeat (first | exact (Kd.C_below HR1.out HB.out) | (with_reducible refine Kd.C_alloc ?_ _) | (with_reducible refine Kd.C_drewN ?_ _) | (with_reducible refine Kd.C_drew ?_))); (case side4 => exact HC1.out); rintro e w18 ⟨v210, rfl, ho0, hb⟩; have n0_ := Aside0.mk (Kd.R_lower ho0 (below_size (by repeat (first | (with_reducible first | exact HB.out | apply below_alloc | apply pw_below_drewN | apply below_drew1) | exact HB.out)))); have n1_ := Aside0.mk (below_step (by repeat (first | (with_reducible first | exact HB.out | apply below_alloc | apply pw_below_drewN | apply below_drew1) | exact HB.out)) hb); clear HB; have HO211 := n0_; have HB := n1_; clear n0_ n1_; (try clear hb); (try clear hb2); (try clear hk); (try clear hi); (try clear ho0)) | ((with_reducible refine gate_dst (N := 39) rfl ?_); (try (refine gate_guard (by rfl) ?_; dsimp only)); refine Kd.R_lit Kd.string _ 9 ?hg (N := 39) ?hd (xs := ([t209] : List ByteArray)) (inner := [.string t209]) (ok := fun _ => True) (okp := fun _ => True) ?hr ?hp (fun _ hk => hk) trivial (Below.refl _ _) (Nat.le_refl _) (by simp) ?_; (case hd => rfl); (case hg => rfl); (case hr => first | (go_simp; done) | (go_simp; rfl)); (case hp => exact (Reps.one (show Kd.M Kd.string _ _ _ t209 [.string t209] from rfl) (Reps.none _ _))); intro v213 w19 ho20 hb hg_ hnew_; clear hg_ hnew_; (first | rw [← Ny212.out] at ho20 | (simp only [Int.reduceToNat] at ho20; rw [← Ny212.out] at ho20)); have n0_ := Aside0.mk (Kd.R_below (by (with_reducible repeat (first | apply Kd.R_alloc | apply Kd.R_drewN | apply Kd.R_drew)); exact HO211.out) hb); have n1_ := Aside0.mk (Kd.R_lower ho20 (below_size (by repeat (first | (with_reducible first | exact HB.out | apply below_alloc | apply pw_below_drewN | apply below_drew1) | exact HB.out)))); have n2_ := Aside0.mk (below_step (by repeat (first | (with_reducible first | exact HB.out | apply below_alloc | apply pw_below_drewN | apply below_drew1) | exact HB.out)) hb); clear HO211; clear HB; have HO211 := n0_; have HO214 := n1_; have HB := n2_; clear n0_ n1_ n2_; clear hb ho20)))
          go_loopg [8, 9] kj2 (fun kq v8 v9 w' => ∃ (x8_2 : List ByteArray) (x9_2 : Int), v9 = .int .i64 x9_2 ∧ Aside0 (monticulelaw28_PlanSound.l0 kq l1 t209 x8_2 x9_2 = some r) ∧ Aside0 (kq ≤ kj2) ∧ Aside0 (Kd.R Kd.string 9 w' w.heap.size (fun _ => True) v8 x8_2) ∧ Aside0 (Below w.heap.size w w'))
          case atStart => exact ⟨(y212), (0), (by first | rfl | (simp; done) | (simp [*]; done)), H', ⟨Nat.le_refl _⟩, ⟨by (with_reducible repeat (first | apply Kd.R_alloc | apply Kd.R_drewN | apply Kd.R_drew)); exact HO214.out⟩, ⟨by repeat (first | (with_reducible first | exact HB.out | apply below_alloc | apply pw_below_drewN | apply below_drew1) | exact HB.out)⟩⟩
          case round =>
            clear H'
            try clear c1
            try clear p2
            try clear c3
            try clear c5
            try clear c7
            try clear c13
            try clear c17
            try clear c17b0
            try clear c17b1
            try clear p2
            obtain ⟨x8_2, x9_2, rfl, HA, HK2, HO_8, HB⟩ := hrel
            cases gk with
            | zero => exact absurd HA.out (by simp [monticulelaw28_PlanSound.l0])
            | succ k2 =>
              have H := HA.out
              clear HA
              simp only [monticulelaw28_PlanSound.l0] at H
              by_cases c21 : x9_2 < 10
              · rw [if_pos c21] at H
                have c21b0 : decide (x9_2 < 10) = true := decide_eq_true c21
                clear c21
                have H' := Aside0.mk H
                clear H
                go_wp2
                repeat (go_quiet (fail); try go_wp2)
                go_loopg [8, 10] k2 (fun kq v8 v10 w' => ∃ (x8_3 : List ByteArray) (x10_3 : Int), v10 = .int .i64 x10_3 ∧ Aside0 (monticulelaw28_PlanSound.l1 kq l1 t209 x8_3 x9_2 x10_3 = some r) ∧ Aside0 (kq ≤ k2) ∧ Aside0 (Kd.R Kd.string 9 w' w.heap.size (fun _ => True) v8 x8_3) ∧ Aside0 (Below w.heap.size w w'))
                case atStart => exact ⟨(x8_2), (0), (by first | rfl | (simp; done) | (simp [*]; done)), H', ⟨Nat.le_refl _⟩, ⟨by (with_reducible repeat (first | apply Kd.R_alloc | apply Kd.R_drewN | apply Kd.R_drew)); exact HO_8.out⟩, ⟨by repeat (first | (with_reducible first | exact HB.out | apply below_alloc | apply pw_below_drewN | apply below_drew1) | exact HB.out)⟩⟩
                case round =>
                  clear H'
                  try clear c1
                  try clear c2
                  try clear p2
                  try clear c3
                  try clear c5
                  try clear c7
                  try clear c13
                  try clear c17
                  try clear c17b0
                  try clear c17b1
                  try clear c21
                  try clear c21b0
                  try clear p2
                  obtain ⟨x8_3, x10_3, rfl, HA, HK3, HO_8, HB⟩ := hrel
                  cases gk with
                  | zero => exact absurd HA.out (by simp [monticulelaw28_PlanSound.l1])
                  | succ k3 =>
                    have H := HA.out
                    clear HA
                    simp only [monticulelaw28_PlanSound.l1] at H
                    by_cases c22 : x10_3 < (l1.length : Int)
                    · rw [if_pos c22] at H
                      have c22b0 : decide (x10_3 < (l1.length : Int)) = true := decide_eq_true c22
                      clear c22
                      by_cases c23 : 0 ≤ x10_3
                      · rw [if_pos c23] at H
                        have c23b0 : decide (0 ≤ x10_3) = true := decide_eq_true c23
                        clear c23
                        replace H := Option.bind_eq_some_iff.mp H
                        obtain ⟨t221, A240, H⟩ := H
                        replace H : (if t221 = true then (if x8_3.length + ((rd_T34 l1 x10_3).f2).length < 8796093022208 then (monticulelaw28_PlanSound.l1 k3 l1 t209 (x8_3 ++ ((rd_T34 l1 x10_3).f2)) x9_2 (wrap64 (x10_3 + 1))) else (none)) else (monticulelaw28_PlanSound.l1 k3 l1 t209 x8_3 x9_2 (wrap64 (x10_3 + 1)))) = some r := H
                        have A24 := Aside0.mk A240
                        clear A240
                        by_cases c25 : t221 = true
                        · subst c25
                          have H1 : (if x8_3.length + ((rd_T34 l1 x10_3).f2).length < 8796093022208 then (monticulelaw28_PlanSound.l1 k3 l1 t209 (x8_3 ++ ((rd_T34 l1 x10_3).f2)) x9_2 (wrap64 (x10_3 + 1))) else (none)) = some r := by rw [if_pos rfl] at H; exact H
                          clear H
                          have H := H1
                          clear H1
                          by_cases c26 : x8_3.length + ((rd_T34 l1 x10_3).f2).length < 8796093022208
                          · rw [if_pos c26] at H
                            have LMc26 := Aside0.mk c26
                            clear c26
                            obtain ⟨y223, hy223⟩ : ∃ y_ : List ByteArray, y_ = (x8_3 ++ ((rd_T34 l1 x10_3).f2)) := ⟨_, rfl⟩
                            replace H : (monticulelaw28_PlanSound.l1 k3 l1 t209 y223 x9_2 (wrap64 (x10_3 + 1))) = some r := by first | (rw [hy223]; with_reducible exact H) | (have H2_ := (Option.bind_some _ _).symm.trans H; rw [hy223]; with_reducible exact H2_) | (have H2_ := (Option.bind_some _ _).symm.trans H; with_reducible exact H2_) | with_reducible exact H | (rw [hy223]; exact H) | exact H
                            have Ny223 := Aside0.mk hy223
                            clear hy223
                            have H' := Aside0.mk H
                            clear H
                            have p220 : 0 ≤ (x10_3 : Int) := of_decide_eq_true (by first | (with_reducible assumption) | assumption)
                            have q220 : x10_3 < (l1.length : Int) := of_decide_eq_true (by first | (with_reducible assumption) | assumption)
                            obtain ⟨ad220, A220_2, c220_2, A220_3, c220_3, e220, hx220_0, hx220_1, hx220_2, hx220_3, hl220_2, hi220_2, hl220_3, hi220_3⟩ := at_T34 HR1.out x10_3 p220 q220
                            cases e220
                            replace hx220_0 := (HB.out.cell (World.block_lt_of_cell? w _ hx220_0)).trans hx220_0
                            replace hx220_1 := (HB.out.cell (World.block_lt_of_cell? w _ hx220_1)).trans hx220_1
                            replace hx220_2 := (HB.out.cell (World.block_lt_of_cell? w _ hx220_2)).trans hx220_2
                            replace hx220_3 := (HB.out.cell (World.block_lt_of_cell? w _ hx220_3)).trans hx220_3
                            have HR220_2 := Aside0.mk hi220_2
                            have HC220_2 := Aside0.mk hl220_2
                            clear hi220_2 hl220_2
                            have HR220_3 := Aside0.mk hi220_3
                            have HC220_3 := Aside0.mk hl220_3
                            clear hi220_3 hl220_3
                            replace p220 := eq_true p220
                            replace q220 := eq_true q220
                            obtain ⟨Ao27, co27, eo27⟩ := Kd.R_slice HO_8.out
                            subst eo27
                            go_wp2_with (first | (go_at_call 11; (with_reducible refine (monticuleref06_In.calls k3 _ _ x8_3 ((rd_T34 l1 x10_3).f0) true _ ?side1 ?side2 A24.out).mono ?_); (case side1 => repeat (first | exact (Kd.R_reads' HO_8.out).2.2 | (with_reducible refine Kd.C_alloc ?_ _) | (with_reducible refine Kd.C_drewN ?_ _) | (with_reducible refine Kd.C_drew ?_))); (case side2 => exact (Kd.R_reads' HO_8.out).2.1); rintro e w' ⟨rfl, ⟨nd, rfl⟩⟩; (try first | exact ⟨rfl, _, World.drewN_drewN _ _ _⟩ | exact ⟨rfl, _, Eq.trans (World.drewN_drewN _ _ _) (congrArg (World.drewN _) (Nat.add_assoc _ _ _))⟩); have p222 : 0 ≤ (x10_3 : Int) := of_decide_eq_true (by first | (with_reducible assumption) | assumption); have q222 : x10_3 < (l1.length : Int) := of_decide_eq_true (by first | (with_reducible assumption) | assumption); obtain ⟨ad222, A222_2, c222_2, A222_3, c222_3, e222, hx222_0, hx222_1, hx222_2, hx222_3, hl222_2, hi222_2, hl222_3, hi222_3⟩ := at_T34 HR1.out x10_3 p222 q222; obtain rfl : ad220 = ad222 := (by injection e222); replace hx222_0 := (HB.out.cell (World.block_lt_of_cell? w _ hx222_0)).trans hx222_0; replace hx222_1 := (HB.out.cell (World.block_lt_of_cell? w _ hx222_1)).trans hx222_1; replace hx222_2 := (HB.out.cell (World.block_lt_of_cell? w _ hx222_2)).trans hx222_2; replace hx222_3 := (HB.out.cell (World.block_lt_of_cell? w _ hx222_3)).trans hx222_3; have HR222_2 := Aside0.mk hi222_2; have HC222_2 := Aside0.mk hl222_2; clear hi222_2 hl222_2; have HR222_3 := Aside0.mk hi222_3; have HC222_3 := Aside0.mk hl222_3; clear hi222_3 hl222_3; replace p222 := eq_true p222; replace q222 := eq_true q222; have ea_ := Option.some.inj (hx220_2.symm.trans hx222_2); injection ea_ with ea_ en_ ec_; subst ea_; subst ec_; clear en_; have ea_ := Option.some.inj (hx220_3.symm.trans hx222_3); injection ea_ with ea_ en_ ec_; subst ea_; subst ec_; clear en_) | ((with_reducible refine gate_builtin (b := .append) (xs := #[.tmp 57, .tmp 62]) rfl ?_); (try (refine gate_guard (by rfl) ?_; dsimp only)); at_builtin; refine Kd.R_append_rows Kd.string (w0 := w) w.heap.size rfl (.tmp 57) (.tmp 62) 22 9 (.string ⟨#[]⟩) 16 rfl Tryd.underlying22 info9 rfl (by decide) (by omega) (.slice Ao27 x8_3.length co27) x8_3 ((rd_T34 l1 x10_3).f2) _ _ _ (fun _ => True) (fun _ => False) rfl rfl ?aO ?aR (fun _ _ h => h) (fun _ h => h.elim) ?aF ?aB ?aS ?aL ?_; (case aR => repeat (first | exact (Kd.C_below HR222_2.out (by repeat (first | (with_reducible first | exact HB.out | apply below_alloc | apply pw_below_drewN | apply below_drew1) | exact HB.out))) | (with_reducible refine Kd.C_alloc ?_ _) | (with_reducible refine Kd.C_drewN ?_ _) | (with_reducible refine Kd.C_drew ?_))); (case aB => exact (by repeat (first | (with_reducible first | exact HB.out | apply below_alloc | apply pw_below_drewN | apply below_drew1) | exact HB.out))); (case aF => exact (fun _ _ => trivial)); (case aO => exact (by (with_reducible repeat (first | apply Kd.R_alloc | apply Kd.R_drewN | apply Kd.R_drew)); exact HO_8.out)); (case aS => exact (below_size (by repeat (first | (with_reducible first | exact HB.out | apply below_alloc | apply pw_below_drewN | apply below_drew1) | exact HB.out)))); (case aL => have := LMc26.out; omega); intro v224 w28 ho hb hg hat; rw [← Ny223.out] at ho; have n0_ := Aside0.mk (hb); have n1_ := Aside0.mk (ho); clear HB; clear HO_8; have HB := n0_; have HO225 := n1_; clear n0_ n1_; clear ho hb hg hat))
                            repeat (go_quiet (first | (go_at_call 11; (with_reducible refine (monticuleref06_In.calls k3 _ _ x8_3 ((rd_T34 l1 x10_3).f0) true _ ?side1 ?side2 A24.out).mono ?_); (case side1 => repeat (first | exact (Kd.R_reads' HO_8.out).2.2 | (with_reducible refine Kd.C_alloc ?_ _) | (with_reducible refine Kd.C_drewN ?_ _) | (with_reducible refine Kd.C_drew ?_))); (case side2 => exact (Kd.R_reads' HO_8.out).2.1); rintro e w' ⟨rfl, ⟨nd, rfl⟩⟩; (try first | exact ⟨rfl, _, World.drewN_drewN _ _ _⟩ | exact ⟨rfl, _, Eq.trans (World.drewN_drewN _ _ _) (congrArg (World.drewN _) (Nat.add_assoc _ _ _))⟩); have p222 : 0 ≤ (x10_3 : Int) := of_decide_eq_true (by first | (with_reducible assumption) | assumption); have q222 : x10_3 < (l1.length : Int) := of_decide_eq_true (by first | (with_reducible assumption) | assumption); obtain ⟨ad222, A222_2, c222_2, A222_3, c222_3, e222, hx222_0, hx222_1, hx222_2, hx222_3, hl222_2, hi222_2, hl222_3, hi222_3⟩ := at_T34 HR1.out x10_3 p222 q222; obtain rfl : ad220 = ad222 := (by injection e222); replace hx222_0 := (HB.out.cell (World.block_lt_of_cell? w _ hx222_0)).trans hx222_0; replace hx222_1 := (HB.out.cell (World.block_lt_of_cell? w _ hx222_1)).trans hx222_1; replace hx222_2 := (HB.out.cell (World.block_lt_of_cell? w _ hx222_2)).trans hx222_2; replace hx222_3 := (HB.out.cell (World.block_lt_of_cell? w _ hx222_3)).trans hx222_3; have HR222_2 := Aside0.mk hi222_2; have HC222_2 := Aside0.mk hl222_2; clear hi222_2 hl222_2; have HR222_3 := Aside0.mk hi222_3; have HC222_3 := Aside0.mk hl222_3; clear hi222_3 hl222_3; replace p222 := eq_true p222; replace q222 := eq_true q222; have ea_ := Option.some.inj (hx220_2.symm.trans hx222_2); injection ea_ with ea_ en_ ec_; subst ea_; subst ec_; clear en_; have ea_ := Option.some.inj (hx220_3.symm.trans hx222_3); injection ea_ with ea_ en_ ec_; subst ea_; subst ec_; clear en_) | ((with_reducible refine gate_builtin (b := .append) (xs := #[.tmp 57, .tmp 62]) rfl ?_); (try (refine gate_guard (by rfl) ?_; dsimp only)); at_builtin; refine Kd.R_append_rows Kd.string (w0 := w) w.heap.size rfl (.tmp 57) (.tmp 62) 22 9 (.string ⟨#[]⟩) 16 rfl Tryd.underlying22 info9 rfl (by decide) (by omega) (.slice Ao27 x8_3.length co27) x8_3 ((rd_T34 l1 x10_3).f2) _ _ _ (fun _ => True) (fun _ => False) rfl rfl ?aO ?aR (fun _ _ h => h) (fun _ h => h.elim) ?aF ?aB ?aS ?aL ?_; (case aR => repeat (first | exact (Kd.C_below HR222_2.out (by repeat (first | (with_reducible first | exact HB.out | apply below_alloc | apply pw_below_drewN | apply below_drew1) | exact HB.out))) | (with_reducible refine Kd.C_alloc ?_ _) | (with_reducible refine Kd.C_drewN ?_ _) | (with_reducible refine Kd.C_drew ?_))); (case aB => exact (by repeat (first | (with_reducible first | exact HB.out | apply below_alloc | apply pw_below_drewN | apply below_drew1) | exact HB.out))); (case aF => exact (fun _ _ => trivial)); (case aO => exact (by (with_reducible repeat (first | apply Kd.R_alloc | apply Kd.R_drewN | apply Kd.R_drew)); exact HO_8.out)); (case aS => exact (below_size (by repeat (first | (with_reducible first | exact HB.out | apply below_alloc | apply pw_below_drewN | apply below_drew1) | exact HB.out)))); (case aL => have := LMc26.out; omega); intro v224 w28 ho hb hg hat; rw [← Ny223.out] at ho; have n0_ := Aside0.mk (hb); have n1_ := Aside0.mk (ho); clear HB; clear HO_8; have HB := n0_; have HO225 := n1_; clear n0_ n1_; clear ho hb hg hat)); try go_wp2_with (first | (go_at_call 11; (with_reducible refine (monticuleref06_In.calls k3 _ _ x8_3 ((rd_T34 l1 x10_3).f0) true _ ?side1 ?side2 A24.out).mono ?_); (case side1 => repeat (first | exact (Kd.R_reads' HO_8.out).2.2 | (with_reducible refine Kd.C_alloc ?_ _) | (with_reducible refine Kd.C_drewN ?_ _) | (with_reducible refine Kd.C_drew ?_))); (case side2 => exact (Kd.R_reads' HO_8.out).2.1); rintro e w' ⟨rfl, ⟨nd, rfl⟩⟩; (try first | exact ⟨rfl, _, World.drewN_drewN _ _ _⟩ | exact ⟨rfl, _, Eq.trans (World.drewN_drewN _ _ _) (congrArg (World.drewN _) (Nat.add_assoc _ _ _))⟩); have p222 : 0 ≤ (x10_3 : Int) := of_decide_eq_true (by first | (with_reducible assumption) | assumption); have q222 : x10_3 < (l1.length : Int) := of_decide_eq_true (by first | (with_reducible assumption) | assumption); obtain ⟨ad222, A222_2, c222_2, A222_3, c222_3, e222, hx222_0, hx222_1, hx222_2, hx222_3, hl222_2, hi222_2, hl222_3, hi222_3⟩ := at_T34 HR1.out x10_3 p222 q222; obtain rfl : ad220 = ad222 := (by injection e222); replace hx222_0 := (HB.out.cell (World.block_lt_of_cell? w _ hx222_0)).trans hx222_0; replace hx222_1 := (HB.out.cell (World.block_lt_of_cell? w _ hx222_1)).trans hx222_1; replace hx222_2 := (HB.out.cell (World.block_lt_of_cell? w _ hx222_2)).trans hx222_2; replace hx222_3 := (HB.out.cell (World.block_lt_of_cell? w _ hx222_3)).trans hx222_3; have HR222_2 := Aside0.mk hi222_2; have HC222_2 := Aside0.mk hl222_2; clear hi222_2 hl222_2; have HR222_3 := Aside0.mk hi222_3; have HC222_3 := Aside0.mk hl222_3; clear hi222_3 hl222_3; replace p222 := eq_true p222; replace q222 := eq_true q222; have ea_ := Option.some.inj (hx220_2.symm.trans hx222_2); injection ea_ with ea_ en_ ec_; subst ea_; subst ec_; clear en_; have ea_ := Option.some.inj (hx220_3.symm.trans hx222_3); injection ea_ with ea_ en_ ec_; subst ea_; subst ec_; clear en_) | ((with_reducible refine gate_builtin (b := .append) (xs := #[.tmp 57, .tmp 62]) rfl ?_); (try (refine gate_guard (by rfl) ?_; dsimp only)); at_builtin; refine Kd.R_append_rows Kd.string (w0 := w) w.heap.size rfl (.tmp 57) (.tmp 62) 22 9 (.string ⟨#[]⟩) 16 rfl Tryd.underlying22 info9 rfl (by decide) (by omega) (.slice Ao27 x8_3.length co27) x8_3 ((rd_T34 l1 x10_3).f2) _ _ _ (fun _ => True) (fun _ => False) rfl rfl ?aO ?aR (fun _ _ h => h) (fun _ h => h.elim) ?aF ?aB ?aS ?aL ?_; (case aR => repeat (first | exact (Kd.C_below HR222_2.out (by repeat (first | (with_reducible first | exact HB.out | apply below_alloc | apply pw_below_drewN | apply below_drew1) | exact HB.out))) | (with_reducible refine Kd.C_alloc ?_ _) | (with_reducible refine Kd.C_drewN ?_ _) | (with_reducible refine Kd.C_drew ?_))); (case aB => exact (by repeat (first | (with_reducible first | exact HB.out | apply below_alloc | apply pw_below_drewN | apply below_drew1) | exact HB.out))); (case aF => exact (fun _ _ => trivial)); (case aO => exact (by (with_reducible repeat (first | apply Kd.R_alloc | apply Kd.R_drewN | apply Kd.R_drew)); exact HO_8.out)); (case aS => exact (below_size (by repeat (first | (with_reducible first | exact HB.out | apply below_alloc | apply pw_below_drewN | apply below_drew1) | exact HB.out)))); (case aL => have := LMc26.out; omega); intro v224 w28 ho hb hg hat; rw [← Ny223.out] at ho; have n0_ := Aside0.mk (hb); have n1_ := Aside0.mk (ho); clear HB; clear HO_8; have HB := n0_; have HO225 := n1_; clear n0_ n1_; clear ho hb hg hat)))
                            go_roundg k3
                            case measure => have := HJ2.out; have := HK2.out; have := HK3.out; omega
                            case rel => exact ⟨(y223), (wrap64 (x10_3 + 1)), (by first | rfl | (simp; done) | (simp [*]; done)), H', ⟨by have := HJ2.out; have := HK2.out; have := HK3.out; omega⟩, ⟨by (with_reducible repeat (first | apply Kd.R_alloc | apply Kd.R_drewN | apply Kd.R_drew)); exact HO225.out⟩, ⟨by repeat (first | (with_reducible first | exact HB.out | apply below_alloc | apply pw_below_drewN | apply below_drew1) | exact HB.out)⟩⟩
                          · rw [if_neg c26] at H
                            exact absurd H (by simp)
                        · replace c25 := Bool.eq_false_iff.mpr c25
                          subst c25
                          have H1 : (monticulelaw28_PlanSound.l1 k3 l1 t209 x8_3 x9_2 (wrap64 (x10_3 + 1))) = some r := by rw [if_neg (show ¬ (false = true) by decide)] at H; exact H
                          clear H
                          have H := H1
                          clear H1
                          have H' := Aside0.mk H
                          clear H
                          have p220 : 0 ≤ (x10_3 : Int) := of_decide_eq_true (by first | (with_reducible assumption) | assumption)
                          have q220 : x10_3 < (l1.length : Int) := of_decide_eq_true (by first | (with_reducible assumption) | assumption)
                          obtain ⟨ad220, A220_2, c220_2, A220_3, c220_3, e220, hx220_0, hx220_1, hx220_2, hx220_3, hl220_2, hi220_2, hl220_3, hi220_3⟩ := at_T34 HR1.out x10_3 p220 q220
                          cases e220
                          replace hx220_0 := (HB.out.cell (World.block_lt_of_cell? w _ hx220_0)).trans hx220_0
                          replace hx220_1 := (HB.out.cell (World.block_lt_of_cell? w _ hx220_1)).trans hx220_1
                          replace hx220_2 := (HB.out.cell (World.block_lt_of_cell? w _ hx220_2)).trans hx220_2
                          replace hx220_3 := (HB.out.cell (World.block_lt_of_cell? w _ hx220_3)).trans hx220_3
                          have HR220_2 := Aside0.mk hi220_2
                          have HC220_2 := Aside0.mk hl220_2
                          clear hi220_2 hl220_2
                          have HR220_3 := Aside0.mk hi220_3
                          have HC220_3 := Aside0.mk hl220_3
                          clear hi220_3 hl220_3
                          replace p220 := eq_true p220
                          replace q220 := eq_true q220
                          obtain ⟨Ao29, co29, eo29⟩ := Kd.R_slice HO_8.out
                          subst eo29
                          go_wp2_with (first | (go_at_call 11; (with_reducible refine (monticuleref06_In.calls k3 _ _ x8_3 ((rd_T34 l1 x10_3).f0) false _ ?side1 ?side2 A24.out).mono ?_); (case side1 => repeat (first | exact (Kd.R_reads' HO_8.out).2.2 | (with_reducible refine Kd.C_alloc ?_ _) | (with_reducible refine Kd.C_drewN ?_ _) | (with_reducible refine Kd.C_drew ?_))); (case side2 => exact (Kd.R_reads' HO_8.out).2.1); rintro e w' ⟨rfl, ⟨nd, rfl⟩⟩; (try first | exact ⟨rfl, _, World.drewN_drewN _ _ _⟩ | exact ⟨rfl, _, Eq.trans (World.drewN_drewN _ _ _) (congrArg (World.drewN _) (Nat.add_assoc _ _ _))⟩)))
                          repeat (go_quiet (first | (go_at_call 11; (with_reducible refine (monticuleref06_In.calls k3 _ _ x8_3 ((rd_T34 l1 x10_3).f0) false _ ?side1 ?side2 A24.out).mono ?_); (case side1 => repeat (first | exact (Kd.R_reads' HO_8.out).2.2 | (with_reducible refine Kd.C_alloc ?_ _) | (with_reducible refine Kd.C_drewN ?_ _) | (with_reducible refine Kd.C_drew ?_))); (case side2 => exact (Kd.R_reads' HO_8.out).2.1); rintro e w' ⟨rfl, ⟨nd, rfl⟩⟩; (try first | exact ⟨rfl, _, World.drewN_drewN _ _ _⟩ | exact ⟨rfl, _, Eq.trans (World.drewN_drewN _ _ _) (congrArg (World.drewN _) (Nat.add_assoc _ _ _))⟩))); try go_wp2_with (first | (go_at_call 11; (with_reducible refine (monticuleref06_In.calls k3 _ _ x8_3 ((rd_T34 l1 x10_3).f0) false _ ?side1 ?side2 A24.out).mono ?_); (case side1 => repeat (first | exact (Kd.R_reads' HO_8.out).2.2 | (with_reducible refine Kd.C_alloc ?_ _) | (with_reducible refine Kd.C_drewN ?_ _) | (with_reducible refine Kd.C_drew ?_))); (case side2 => exact (Kd.R_reads' HO_8.out).2.1); rintro e w' ⟨rfl, ⟨nd, rfl⟩⟩; (try first | exact ⟨rfl, _, World.drewN_drewN _ _ _⟩ | exact ⟨rfl, _, Eq.trans (World.drewN_drewN _ _ _) (congrArg (World.drewN _) (Nat.add_assoc _ _ _))⟩))))
                          go_roundg k3
                          case measure => have := HJ2.out; have := HK2.out; have := HK3.out; omega
                          case rel => exact ⟨(x8_3), (wrap64 (x10_3 + 1)), (by first | rfl | (simp; done) | (simp [*]; done)), H', ⟨by have := HJ2.out; have := HK2.out; have := HK3.out; omega⟩, ⟨by (with_reducible repeat (first | apply Kd.R_alloc | apply Kd.R_drewN | apply Kd.R_drew)); exact HO_8.out⟩, ⟨by repeat (first | (with_reducible first | exact HB.out | apply below_alloc | apply pw_below_drewN | apply below_drew1) | exact HB.out)⟩⟩
                      · rw [if_neg c23] at H
                        exact absurd H (by simp)
                    · rw [if_neg c22] at H
                      have c22b0 : decide (x10_3 < (l1.length : Int)) = false := decide_eq_false c22
                      clear c22
                      have H' := Aside0.mk H
                      clear H
                      go_wp2
                      repeat (go_quiet (fail); try go_wp2)
                      go_roundg k3
                      case measure => have := HJ2.out; have := HK2.out; have := HK3.out; omega
                      case rel => exact ⟨(x8_3), (wrap64 (x9_2 + 1)), (by first | rfl | (simp; done) | (simp [*]; done)), H', ⟨by have := HJ2.out; have := HK2.out; have := HK3.out; omega⟩, ⟨by (with_reducible repeat (first | apply Kd.R_alloc | apply Kd.R_drewN | apply Kd.R_drew)); exact HO_8.out⟩, ⟨by repeat (first | (with_reducible first | exact HB.out | apply below_alloc | apply pw_below_drewN | apply below_drew1) | exact HB.out)⟩⟩
              · rw [if_neg c21] at H
                have c21b0 : decide (x9_2 < 10) = false := decide_eq_false c21
                clear c21
                by_cases c30 : 1 ≤ (x8_2.length : Int)
                · rw [if_pos c30] at H
                  have c30b0 := eq_true c30
                  have c30b1 : decide (1 ≤ (x8_2.length : Int)) = true := decide_eq_true c30
                  clear c30
                  obtain ⟨y215, hy215⟩ : ∃ y_ : List ByteArray, y_ = (x8_2.drop 1) := ⟨_, rfl⟩
                  replace H : ((monticuleref06_In.f k2 y215 t209).bind fun t219 => (if t219 = true then (some true) else (some (decide ((x8_2.length : Int) > 1))))) = some r := by first | (rw [hy215]; with_reducible exact H) | (have H2_ := (Option.bind_some _ _).symm.trans H; rw [hy215]; with_reducible exact H2_) | (have H2_ := (Option.bind_some _ _).symm.trans H; with_reducible exact H2_) | with_reducible exact H | (rw [hy215]; exact H) | exact H
                  have Ny215 := Aside0.mk hy215
                  clear hy215
                  replace H := Option.bind_eq_some_iff.mp H
                  obtain ⟨t219, A310, H⟩ := H
                  replace H : (if t219 = true then (some true) else (some (decide ((x8_2.length : Int) > 1)))) = some r := H
                  have A31 := Aside0.mk A310
                  clear A310
                  by_cases c32 : t219 = true
                  · subst c32
                    have H1 : (some true) = some r := by rw [if_pos rfl] at H; exact H
                    clear H
                    have H := H1
                    clear H1
                    obtain rfl := Option.some.inj H
                    obtain ⟨Ao34, co34, eo34⟩ := Kd.R_slice HO_8.out
                    subst eo34
                    have q33 : (1 : Int) ≤ ((x8_2.length : Int) : Int) := of_decide_eq_true (by first | (with_reducible assumption) | assumption)
                    obtain ⟨i033, hi033, _, hsz33, _⟩ := info_parts info9
                    have hroom33 : x8_2.length ≤ co34 := (Kd.R_reads' HO_8.out).2.1
                    have hC33 : Kd.C Kd.string _ Ao34 x8_2.length x8_2 := (Kd.R_reads' HO_8.out).2.2
                    have hcut33 := cut_from (P := Tryd.prog) 22 9 .i64 Tryd.underlying22 hi033 1 hsz33 Ao34 x8_2.length co34 1 (by omega) q33
                    have hr33 := Kd.C_drop (m := (1 : Int).toNat) (c := co34) hC33 (by omega) hroom33
                    obtain ⟨A33, hA33⟩ : ∃ A1, A1 = (if co34 = (1 : Int).toNat then Ao34 else (Ao34 : Option Addr).map (·.add ((1 : Int).toNat * 1))) := ⟨_, rfl⟩
                    obtain ⟨c33, hc33⟩ : ∃ c1, c1 = co34 - (1 : Int).toNat := ⟨_, rfl⟩
                    have hy33 : y215.length = x8_2.length - (1 : Int).toNat := (by rw [Ny215.out, List.length_drop] <;> omega)
                    rw [show (x8_2).drop (1 : Int).toNat = y215 from Ny215.out.symm] at hr33
                    replace hr33 : Kd.C Kd.string _ A33 y215.length y215 := (by rw [hA33]; exact hr33)
                    rw [← hy33, ← hA33, ← hc33] at hcut33
                    have HR218 := Aside0.mk hr33
                    have HC218 := Aside0.mk (show y215.length ≤ c33 from by rw [hy33, hc33]; exact Nat.sub_le_sub_right hroom33 _)
                    clear hr33 hC33 hroom33 hi033 hsz33 hc33
                    have KY33 := Aside0.mk hy33
                    have KA33 := Aside0.mk hA33
                    clear hy33 hA33
                    have KL33 := Aside0.mk (show 1 ≤ x8_2.length from by omega)
                    replace q33 := eq_true q33
                    go_wp2_with (first | (go_at_call 11; (with_reducible refine (monticuleref06_In.calls k2 _ _ y215 t209 true _ ?side1 ?side2 A31.out).mono ?_); (case side1 => repeat (first | exact (by repeat (first | (with_reducible exact HR218.out) | (with_reducible refine Kd.C_alloc ?_ _) | (with_reducible refine Kd.C_drewN ?_ _) | (with_reducible refine Kd.C_drew ?_) | exact HR218.out)) | (with_reducible refine Kd.C_alloc ?_ _) | (with_reducible refine Kd.C_drewN ?_ _) | (with_reducible refine Kd.C_drew ?_))); (case side2 => exact HC218.out); rintro e w' ⟨rfl, ⟨nd, rfl⟩⟩; (try first | exact ⟨rfl, _, World.drewN_drewN _ _ _⟩ | exact ⟨rfl, _, Eq.trans (World.drewN_drewN _ _ _) (congrArg (World.drewN _) (Nat.add_assoc _ _ _))⟩)))
                    repeat (go_quiet (first | (go_at_call 11; (with_reducible refine (monticuleref06_In.calls k2 _ _ y215 t209 true _ ?side1 ?side2 A31.out).mono ?_); (case side1 => repeat (first | exact (by repeat (first | (with_reducible exact HR218.out) | (with_reducible refine Kd.C_alloc ?_ _) | (with_reducible refine Kd.C_drewN ?_ _) | (with_reducible refine Kd.C_drew ?_) | exact HR218.out)) | (with_reducible refine Kd.C_alloc ?_ _) | (with_reducible refine Kd.C_drewN ?_ _) | (with_reducible refine Kd.C_drew ?_))); (case side2 => exact HC218.out); rintro e w' ⟨rfl, ⟨nd, rfl⟩⟩; (try first | exact ⟨rfl, _, World.drewN_drewN _ _ _⟩ | exact ⟨rfl, _, Eq.trans (World.drewN_drewN _ _ _) (congrArg (World.drewN _) (Nat.add_assoc _ _ _))⟩))); try go_wp2_with (first | (go_at_call 11; (with_reducible refine (monticuleref06_In.calls k2 _ _ y215 t209 true _ ?side1 ?side2 A31.out).mono ?_); (case side1 => repeat (first | exact (by repeat (first | (with_reducible exact HR218.out) | (with_reducible refine Kd.C_alloc ?_ _) | (with_reducible refine Kd.C_drewN ?_ _) | (with_reducible refine Kd.C_drew ?_) | exact HR218.out)) | (with_reducible refine Kd.C_alloc ?_ _) | (with_reducible refine Kd.C_drewN ?_ _) | (with_reducible refine Kd.C_drew ?_))); (case side2 => exact HC218.out); rintro e w' ⟨rfl, ⟨nd, rfl⟩⟩; (try first | exact ⟨rfl, _, World.drewN_drewN _ _ _⟩ | exact ⟨rfl, _, Eq.trans (World.drewN_drewN _ _ _) (congrArg (World.drewN _) (Nat.add_assoc _ _ _))⟩))))
                    go_ret
                    exact ⟨by first | rfl | (simp [errW_none, errW_some] <;> rfl) | (simp [*, errW_none, errW_some] <;> rfl), by repeat (first | (with_reducible first | exact HB.out | apply below_alloc | apply pw_below_drewN | apply below_drew1) | exact HB.out)⟩
                  · replace c32 := Bool.eq_false_iff.mpr c32
                    subst c32
                    have H1 : (some (decide ((x8_2.length : Int) > 1))) = some r := by rw [if_neg (show ¬ (false = true) by decide)] at H; exact H
                    clear H
                    have H := H1
                    clear H1
                    obtain rfl := Option.some.inj H
                    obtain ⟨Ao36, co36, eo36⟩ := Kd.R_slice HO_8.out
                    subst eo36
                    have q35 : (1 : Int) ≤ ((x8_2.length : Int) : Int) := of_decide_eq_true (by first | (with_reducible assumption) | assumption)
                    obtain ⟨i035, hi035, _, hsz35, _⟩ := info_parts info9
                    have hroom35 : x8_2.length ≤ co36 := (Kd.R_reads' HO_8.out).2.1
                    have hC35 : Kd.C Kd.string _ Ao36 x8_2.length x8_2 := (Kd.R_reads' HO_8.out).2.2
                    have hcut35 := cut_from (P := Tryd.prog) 22 9 .i64 Tryd.underlying22 hi035 1 hsz35 Ao36 x8_2.length co36 1 (by omega) q35
                    have hr35 := Kd.C_drop (m := (1 : Int).toNat) (c := co36) hC35 (by omega) hroom35
                    obtain ⟨A35, hA35⟩ : ∃ A1, A1 = (if co36 = (1 : Int).toNat then Ao36 else (Ao36 : Option Addr).map (·.add ((1 : Int).toNat * 1))) := ⟨_, rfl⟩
                    obtain ⟨c35, hc35⟩ : ∃ c1, c1 = co36 - (1 : Int).toNat := ⟨_, rfl⟩
                    have hy35 : y215.length = x8_2.length - (1 : Int).toNat := (by rw [Ny215.out, List.length_drop] <;> omega)
                    rw [show (x8_2).drop (1 : Int).toNat = y215 from Ny215.out.symm] at hr35
                    replace hr35 : Kd.C Kd.string _ A35 y215.length y215 := (by rw [hA35]; exact hr35)
                    rw [← hy35, ← hA35, ← hc35] at hcut35
                    have HR218 := Aside0.mk hr35
                    have HC218 := Aside0.mk (show y215.length ≤ c35 from by rw [hy35, hc35]; exact Nat.sub_le_sub_right hroom35 _)
                    clear hr35 hC35 hroom35 hi035 hsz35 hc35
                    have KY35 := Aside0.mk hy35
                    have KA35 := Aside0.mk hA35
                    clear hy35 hA35
                    have KL35 := Aside0.mk (show 1 ≤ x8_2.length from by omega)
                    replace q35 := eq_true q35
                    go_wp2_with (first | (go_at_call 11; (with_reducible refine (monticuleref06_In.calls k2 _ _ y215 t209 false _ ?side1 ?side2 A31.out).mono ?_); (case side1 => repeat (first | exact (by repeat (first | (with_reducible exact HR218.out) | (with_reducible refine Kd.C_alloc ?_ _) | (with_reducible refine Kd.C_drewN ?_ _) | (with_reducible refine Kd.C_drew ?_) | exact HR218.out)) | (with_reducible refine Kd.C_alloc ?_ _) | (with_reducible refine Kd.C_drewN ?_ _) | (with_reducible refine Kd.C_drew ?_))); (case side2 => exact HC218.out); rintro e w' ⟨rfl, ⟨nd, rfl⟩⟩; (try first | exact ⟨rfl, _, World.drewN_drewN _ _ _⟩ | exact ⟨rfl, _, Eq.trans (World.drewN_drewN _ _ _) (congrArg (World.drewN _) (Nat.add_assoc _ _ _))⟩)))
                    repeat (go_quiet (first | (go_at_call 11; (with_reducible refine (monticuleref06_In.calls k2 _ _ y215 t209 false _ ?side1 ?side2 A31.out).mono ?_); (case side1 => repeat (first | exact (by repeat (first | (with_reducible exact HR218.out) | (with_reducible refine Kd.C_alloc ?_ _) | (with_reducible refine Kd.C_drewN ?_ _) | (with_reducible refine Kd.C_drew ?_) | exact HR218.out)) | (with_reducible refine Kd.C_alloc ?_ _) | (with_reducible refine Kd.C_drewN ?_ _) | (with_reducible refine Kd.C_drew ?_))); (case side2 => exact HC218.out); rintro e w' ⟨rfl, ⟨nd, rfl⟩⟩; (try first | exact ⟨rfl, _, World.drewN_drewN _ _ _⟩ | exact ⟨rfl, _, Eq.trans (World.drewN_drewN _ _ _) (congrArg (World.drewN _) (Nat.add_assoc _ _ _))⟩))); try go_wp2_with (first | (go_at_call 11; (with_reducible refine (monticuleref06_In.calls k2 _ _ y215 t209 false _ ?side1 ?side2 A31.out).mono ?_); (case side1 => repeat (first | exact (by repeat (first | (with_reducible exact HR218.out) | (with_reducible refine Kd.C_alloc ?_ _) | (with_reducible refine Kd.C_drewN ?_ _) | (with_reducible refine Kd.C_drew ?_) | exact HR218.out)) | (with_reducible refine Kd.C_alloc ?_ _) | (with_reducible refine Kd.C_drewN ?_ _) | (with_reducible refine Kd.C_drew ?_))); (case side2 => exact HC218.out); rintro e w' ⟨rfl, ⟨nd, rfl⟩⟩; (try first | exact ⟨rfl, _, World.drewN_drewN _ _ _⟩ | exact ⟨rfl, _, Eq.trans (World.drewN_drewN _ _ _) (congrArg (World.drewN _) (Nat.add_assoc _ _ _))⟩))))
                    go_ret
                    exact ⟨by first | rfl | (simp [errW_none, errW_some] <;> rfl) | (simp [*, errW_none, errW_some] <;> rfl), by repeat (first | (with_reducible first | exact HB.out | apply below_alloc | apply pw_below_drewN | apply below_drew1) | exact HB.out)⟩
                · rw [if_neg c30] at H
                  exact absurd H (by simp)
        · rw [if_neg c17] at H
          have c17b0 : (t208 == 71) = false := beq_eq_false_iff_ne.mpr c17
          have c17b1 : (t208 != 71) = true := bne_iff_ne.mpr c17
          by_cases c37 : t208 = 0
          · rw [if_pos c37] at H
            have c37b0 : (t208 == 0) = true := beq_iff_eq.mpr c37
            have c37b1 : (t208 != 0) = false := bne_eq_false_iff_eq.mpr c37
            clear c37
            obtain ⟨y226, hy226⟩ : ∃ y_ : List ByteArray, y_ = (([] : List ByteArray)) := ⟨_, rfl⟩
            replace H : (if y226.length + l0.length < 8796093022208 then (monticulelaw28_PlanSound.l2 kj2 l1 t207 (y226 ++ l0) 0) else (none)) = some r := by first | (rw [hy226]; with_reducible exact H) | (have H2_ := (Option.bind_some _ _).symm.trans H; rw [hy226]; with_reducible exact H2_) | (have H2_ := (Option.bind_some _ _).symm.trans H; with_reducible exact H2_) | with_reducible exact H | (rw [hy226]; exact H) | exact H
            have Ny226 := Aside0.mk hy226
            clear hy226
            by_cases c38 : y226.length + l0.length < 8796093022208
            · rw [if_pos c38] at H
              have LMc38 := Aside0.mk c38
              clear c38
              obtain ⟨y229, hy229⟩ : ∃ y_ : List ByteArray, y_ = (y226 ++ l0) := ⟨_, rfl⟩
              replace H : (monticulelaw28_PlanSound.l2 kj2 l1 t207 y229 0) = some r := by first | (rw [hy229]; with_reducible exact H) | (have H2_ := (Option.bind_some _ _).symm.trans H; rw [hy229]; with_reducible exact H2_) | (have H2_ := (Option.bind_some _ _).symm.trans H; with_reducible exact H2_) | with_reducible exact H | (rw [hy229]; exact H) | exact H
              have Ny229 := Aside0.mk hy229
              clear hy229
              have H' := Aside0.mk H
              clear H
              go_wp2_with (first | (go_at_call 10; (with_reducible refine (plan_Order.calls kj2 _ _ l0 _ _ l1 t207 t208 t209 _ ?side1 ?side2 ?side3 ?side4 A16.out).mono ?_); (case side1 => repeat (first | exact (Kd.C_below HR0.out HB.out) | (with_reducible refine Kd.C_alloc ?_ _) | (with_reducible refine Kd.C_drewN ?_ _) | (with_reducible refine Kd.C_drew ?_))); (case side2 => exact HC0.out); (case side3 => repeat (first | exact (Kd.C_below HR1.out HB.out) | (with_reducible refine Kd.C_alloc ?_ _) | (with_reducible refine Kd.C_drewN ?_ _) | (with_reducible refine Kd.C_drew ?_))); (case side4 => exact HC1.out); rintro e w39 ⟨v210, rfl, ho0, hb⟩; have n0_ := Aside0.mk (Kd.R_lower ho0 (below_size (by repeat (first | (with_reducible first | exact HB.out | apply below_alloc | apply pw_below_drewN | apply below_drew1) | exact HB.out)))); have n1_ := Aside0.mk (below_step (by repeat (first | (with_reducible first | exact HB.out | apply below_alloc | apply pw_below_drewN | apply below_drew1) | exact HB.out)) hb); clear HB; have HO211 := n0_; have HB := n1_; clear n0_ n1_; (try clear hb); (try clear hb2); (try clear hk); (try clear hi); (try clear ho0)) | ((with_reducible refine gate_dst (N := 78) rfl ?_); (try (refine gate_guard (by rfl) ?_; dsimp only)); refine Kd.R_lit Kd.string _ 9 ?hg (N := 78) ?hd (xs := ([] : List ByteArray)) (inner := []) (ok := fun _ => True) (okp := fun _ => True) ?hr ?hp (fun _ hk => hk) trivial (Below.refl _ _) (Nat.le_refl _) (by simp) ?_; (case hd => rfl); (case hg => rfl); (case hr => first | (go_simp; done) | (go_simp; rfl)); (case hp => exact (Reps.none _ _)); intro v227 w40 ho41 hb hg_ hnew_; clear hg_ hnew_; (first | rw [← Ny226.out] at ho41 | (simp only [Int.reduceToNat] at ho41; rw [← Ny226.out] at ho41)); have n0_ := Aside0.mk (Kd.R_below (by (with_reducible repeat (first | apply Kd.R_alloc | apply Kd.R_drewN | apply Kd.R_drew)); exact HO211.out) hb); have n1_ := Aside0.mk (Kd.R_lower ho41 (below_size (by repeat (first | (with_reducible first | exact HB.out | apply below_alloc | apply pw_below_drewN | apply below_drew1) | exact HB.out)))); have n2_ := Aside0.mk (below_step (by repeat (first | (with_reducible first | exact HB.out | apply below_alloc | apply pw_below_drewN | apply below_drew1) | exact HB.out)) hb); clear HO211; clear HB; have HO211 := n0_; have HO228 := n1_; have HB := n2_; clear n0_ n1_ n2_; clear hb ho41) | ((with_reducible refine gate_builtin (b := .append) (xs := #[.tmp 78, .tmp 79]) rfl ?_); (try (refine gate_guard (by rfl) ?_; dsimp only)); at_builtin; refine Kd.R_append_rows Kd.string (w0 := w) w.heap.size rfl (.tmp 78) (.tmp 79) 22 9 (.string ⟨#[]⟩) 16 rfl Tryd.underlying22 info9 rfl (by decide) (by omega) v227 y226 l0 _ _ _ (fun _ => True) (fun _ => False) rfl rfl ?aO ?aR (fun _ _ h => h) (fun _ h => h.elim) ?aF ?aB ?aS ?aL ?_; (case aR => repeat (first | exact (Kd.C_below HR0.out HB.out) | (with_reducible refine Kd.C_alloc ?_ _) | (with_reducible refine Kd.C_drewN ?_ _) | (with_reducible refine Kd.C_drew ?_))); (case aB => exact (by repeat (first | (with_reducible first | exact HB.out | apply below_alloc | apply pw_below_drewN | apply below_drew1) | exact HB.out))); (case aF => exact (fun _ _ => trivial)); (case aO => exact (by (with_reducible repeat (first | apply Kd.R_alloc | apply Kd.R_drewN | apply Kd.R_drew)); exact HO228.out)); (case aS => exact (below_size (by repeat (first | (with_reducible first | exact HB.out | apply below_alloc | apply pw_below_drewN | apply below_drew1) | exact HB.out)))); (case aL => have := LMc38.out; omega); intro v230 w42 ho hb hg hat; rw [← Ny229.out] at ho; have n0_ := Aside0.mk (Kd.R_over' (by (with_reducible repeat (first | apply Kd.R_alloc | apply Kd.R_drewN | apply Kd.R_drew)); exact HO211.out) (Kd.R_typed (by (with_reducible repeat (first | apply Kd.R_alloc | apply Kd.R_drewN | apply Kd.R_drew)); exact HO228.out)) (by decide) hg); have n1_ := Aside0.mk (hb); have n2_ := Aside0.mk (ho); clear HO211; clear HB; clear HO228; have HO211 := n0_; have HB := n1_; have HO231 := n2_; clear n0_ n1_ n2_; clear ho hb hg hat))
              repeat (go_quiet (first | (go_at_call 10; (with_reducible refine (plan_Order.calls kj2 _ _ l0 _ _ l1 t207 t208 t209 _ ?side1 ?side2 ?side3 ?side4 A16.out).mono ?_); (case side1 => repeat (first | exact (Kd.C_below HR0.out HB.out) | (with_reducible refine Kd.C_alloc ?_ _) | (with_reducible refine Kd.C_drewN ?_ _) | (with_reducible refine Kd.C_drew ?_))); (case side2 => exact HC0.out); (case side3 => repeat (first | exact (Kd.C_below HR1.out HB.out) | (with_reducible refine Kd.C_alloc ?_ _) | (with_reducible refine Kd.C_drewN ?_ _) | (with_reducible refine Kd.C_drew ?_))); (case side4 => exact HC1.out); rintro e w39 ⟨v210, rfl, ho0, hb⟩; have n0_ := Aside0.mk (Kd.R_lower ho0 (below_size (by repeat (first | (with_reducible first | exact HB.out | apply below_alloc | apply pw_below_drewN | apply below_drew1) | exact HB.out)))); have n1_ := Aside0.mk (below_step (by repeat (first | (with_reducible first | exact HB.out | apply below_alloc | apply pw_below_drewN | apply below_drew1) | exact HB.out)) hb); clear HB; have HO211 := n0_; have HB := n1_; clear n0_ n1_; (try clear hb); (try clear hb2); (try clear hk); (try clear hi); (try clear ho0)) | ((with_reducible refine gate_dst (N := 78) rfl ?_); (try (refine gate_guard (by rfl) ?_; dsimp only)); refine Kd.R_lit Kd.string _ 9 ?hg (N := 78) ?hd (xs := ([] : List ByteArray)) (inner := []) (ok := fun _ => True) (okp := fun _ => True) ?hr ?hp (fun _ hk => hk) trivial (Below.refl _ _) (Nat.le_refl _) (by simp) ?_; (case hd => rfl); (case hg => rfl); (case hr => first | (go_simp; done) | (go_simp; rfl)); (case hp => exact (Reps.none _ _)); intro v227 w40 ho41 hb hg_ hnew_; clear hg_ hnew_; (first | rw [← Ny226.out] at ho41 | (simp only [Int.reduceToNat] at ho41; rw [← Ny226.out] at ho41)); have n0_ := Aside0.mk (Kd.R_below (by (with_reducible repeat (first | apply Kd.R_alloc | apply Kd.R_drewN | apply Kd.R_drew)); exact HO211.out) hb); have n1_ := Aside0.mk (Kd.R_lower ho41 (below_size (by repeat (first | (with_reducible first | exact HB.out | apply below_alloc | apply pw_below_drewN | apply below_drew1) | exact HB.out)))); have n2_ := Aside0.mk (below_step (by repeat (first | (with_reducible first | exact HB.out | apply below_alloc | apply pw_below_drewN | apply below_drew1) | exact HB.out)) hb); clear HO211; clear HB; have HO211 := n0_; have HO228 := n1_; have HB := n2_; clear n0_ n1_ n2_; clear hb ho41) | ((with_reducible refine gate_builtin (b := .append) (xs := #[.tmp 78, .tmp 79]) rfl ?_); (try (refine gate_guard (by rfl) ?_; dsimp only)); at_builtin; refine Kd.R_append_rows Kd.string (w0 := w) w.heap.size rfl (.tmp 78) (.tmp 79) 22 9 (.string ⟨#[]⟩) 16 rfl Tryd.underlying22 info9 rfl (by decide) (by omega) v227 y226 l0 _ _ _ (fun _ => True) (fun _ => False) rfl rfl ?aO ?aR (fun _ _ h => h) (fun _ h => h.elim) ?aF ?aB ?aS ?aL ?_; (case aR => repeat (first | exact (Kd.C_below HR0.out HB.out) | (with_reducible refine Kd.C_alloc ?_ _) | (with_reducible refine Kd.C_drewN ?_ _) | (with_reducible refine Kd.C_drew ?_))); (case aB => exact (by repeat (first | (with_reducible first | exact HB.out | apply below_alloc | apply pw_below_drewN | apply below_drew1) | exact HB.out))); (case aF => exact (fun _ _ => trivial)); (case aO => exact (by (with_reducible repeat (first | apply Kd.R_alloc | apply Kd.R_drewN | apply Kd.R_drew)); exact HO228.out)); (case aS => exact (below_size (by repeat (first | (with_reducible first | exact HB.out | apply below_alloc | apply pw_below_drewN | apply below_drew1) | exact HB.out)))); (case aL => have := LMc38.out; omega); intro v230 w42 ho hb hg hat; rw [← Ny229.out] at ho; have n0_ := Aside0.mk (Kd.R_over' (by (with_reducible repeat (first | apply Kd.R_alloc | apply Kd.R_drewN | apply Kd.R_drew)); exact HO211.out) (Kd.R_typed (by (with_reducible repeat (first | apply Kd.R_alloc | apply Kd.R_drewN | apply Kd.R_drew)); exact HO228.out)) (by decide) hg); have n1_ := Aside0.mk (hb); have n2_ := Aside0.mk (ho); clear HO211; clear HB; clear HO228; have HO211 := n0_; have HB := n1_; have HO231 := n2_; clear n0_ n1_ n2_; clear ho hb hg hat)); try go_wp2_with (first | (go_at_call 10; (with_reducible refine (plan_Order.calls kj2 _ _ l0 _ _ l1 t207 t208 t209 _ ?side1 ?side2 ?side3 ?side4 A16.out).mono ?_); (case side1 => repeat (first | exact (Kd.C_below HR0.out HB.out) | (with_reducible refine Kd.C_alloc ?_ _) | (with_reducible refine Kd.C_drewN ?_ _) | (with_reducible refine Kd.C_drew ?_))); (case side2 => exact HC0.out); (case side3 => repeat (first | exact (Kd.C_below HR1.out HB.out) | (with_reducible refine Kd.C_alloc ?_ _) | (with_reducible refine Kd.C_drewN ?_ _) | (with_reducible refine Kd.C_drew ?_))); (case side4 => exact HC1.out); rintro e w39 ⟨v210, rfl, ho0, hb⟩; have n0_ := Aside0.mk (Kd.R_lower ho0 (below_size (by repeat (first | (with_reducible first | exact HB.out | apply below_alloc | apply pw_below_drewN | apply below_drew1) | exact HB.out)))); have n1_ := Aside0.mk (below_step (by repeat (first | (with_reducible first | exact HB.out | apply below_alloc | apply pw_below_drewN | apply below_drew1) | exact HB.out)) hb); clear HB; have HO211 := n0_; have HB := n1_; clear n0_ n1_; (try clear hb); (try clear hb2); (try clear hk); (try clear hi); (try clear ho0)) | ((with_reducible refine gate_dst (N := 78) rfl ?_); (try (refine gate_guard (by rfl) ?_; dsimp only)); refine Kd.R_lit Kd.string _ 9 ?hg (N := 78) ?hd (xs := ([] : List ByteArray)) (inner := []) (ok := fun _ => True) (okp := fun _ => True) ?hr ?hp (fun _ hk => hk) trivial (Below.refl _ _) (Nat.le_refl _) (by simp) ?_; (case hd => rfl); (case hg => rfl); (case hr => first | (go_simp; done) | (go_simp; rfl)); (case hp => exact (Reps.none _ _)); intro v227 w40 ho41 hb hg_ hnew_; clear hg_ hnew_; (first | rw [← Ny226.out] at ho41 | (simp only [Int.reduceToNat] at ho41; rw [← Ny226.out] at ho41)); have n0_ := Aside0.mk (Kd.R_below (by (with_reducible repeat (first | apply Kd.R_alloc | apply Kd.R_drewN | apply Kd.R_drew)); exact HO211.out) hb); have n1_ := Aside0.mk (Kd.R_lower ho41 (below_size (by repeat (first | (with_reducible first | exact HB.out | apply below_alloc | apply pw_below_drewN | apply below_drew1) | exact HB.out)))); have n2_ := Aside0.mk (below_step (by repeat (first | (with_reducible first | exact HB.out | apply below_alloc | apply pw_below_drewN | apply below_drew1) | exact HB.out)) hb); clear HO211; clear HB; have HO211 := n0_; have HO228 := n1_; have HB := n2_; clear n0_ n1_ n2_; clear hb ho41) | ((with_reducible refine gate_builtin (b := .append) (xs := #[.tmp 78, .tmp 79]) rfl ?_); (try (refine gate_guard (by rfl) ?_; dsimp only)); at_builtin; refine Kd.R_append_rows Kd.string (w0 := w) w.heap.size rfl (.tmp 78) (.tmp 79) 22 9 (.string ⟨#[]⟩) 16 rfl Tryd.underlying22 info9 rfl (by decide) (by omega) v227 y226 l0 _ _ _ (fun _ => True) (fun _ => False) rfl rfl ?aO ?aR (fun _ _ h => h) (fun _ h => h.elim) ?aF ?aB ?aS ?aL ?_; (case aR => repeat (first | exact (Kd.C_below HR0.out HB.out) | (with_reducible refine Kd.C_alloc ?_ _) | (with_reducible refine Kd.C_drewN ?_ _) | (with_reducible refine Kd.C_drew ?_))); (case aB => exact (by repeat (first | (with_reducible first | exact HB.out | apply below_alloc | apply pw_below_drewN | apply below_drew1) | exact HB.out))); (case aF => exact (fun _ _ => trivial)); (case aO => exact (by (with_reducible repeat (first | apply Kd.R_alloc | apply Kd.R_drewN | apply Kd.R_drew)); exact HO228.out)); (case aS => exact (below_size (by repeat (first | (with_reducible first | exact HB.out | apply below_alloc | apply pw_below_drewN | apply below_drew1) | exact HB.out)))); (case aL => have := LMc38.out; omega); intro v230 w42 ho hb hg hat; rw [← Ny229.out] at ho; have n0_ := Aside0.mk (Kd.R_over' (by (with_reducible repeat (first | apply Kd.R_alloc | apply Kd.R_drewN | apply Kd.R_drew)); exact HO211.out) (Kd.R_typed (by (with_reducible repeat (first | apply Kd.R_alloc | apply Kd.R_drewN | apply Kd.R_drew)); exact HO228.out)) (by decide) hg); have n1_ := Aside0.mk (hb); have n2_ := Aside0.mk (ho); clear HO211; clear HB; clear HO228; have HO211 := n0_; have HB := n1_; have HO231 := n2_; clear n0_ n1_ n2_; clear ho hb hg hat)))
              go_loopg [11, 12] kj2 (fun kq v11 v12 w' => ∃ (x11_2 : List ByteArray) (x12_2 : Int), v12 = .int .i64 x12_2 ∧ Aside0 (monticulelaw28_PlanSound.l2 kq l1 t207 x11_2 x12_2 = some r) ∧ Aside0 (kq ≤ kj2) ∧ Aside0 (Kd.R (Kd.int .i64) 3 w' w.heap.size (fun _ => True) v210 t207) ∧ Aside0 (Kd.R Kd.string 9 w' w.heap.size (fun _ => True) v11 x11_2) ∧ Aside0 (Below w.heap.size w w'))
              case atStart => exact ⟨(y229), (0), (by first | rfl | (simp; done) | (simp [*]; done)), H', ⟨Nat.le_refl _⟩, ⟨by (with_reducible repeat (first | apply Kd.R_alloc | apply Kd.R_drewN | apply Kd.R_drew)); exact HO211.out⟩, ⟨by (with_reducible repeat (first | apply Kd.R_alloc | apply Kd.R_drewN | apply Kd.R_drew)); exact HO231.out⟩, ⟨by repeat (first | (with_reducible first | exact HB.out | apply below_alloc | apply pw_below_drewN | apply below_drew1) | exact HB.out)⟩⟩
              case round =>
                clear H'
                try clear c1
                try clear c2
                try clear p2
                try clear q2
                try clear hx2
                try clear c3
                try clear q3
                try clear c5
                try clear p6
                try clear c7
                try clear c13
                try clear c17
                try clear c17b0
                try clear c17b1
                try clear c21
                try clear c21b0
                try clear c22
                try clear c22b0
                try clear p22
                try clear q22
                try clear hx22
                try clear c23
                try clear c23b0
                try clear c25
                try clear c26
                try clear c30
                try clear c30b0
                try clear c30b1
                try clear c32
                try clear c33
                try clear q33
                try clear c35
                try clear q35
                try clear c37
                try clear c37b0
                try clear c37b1
                try clear c38
                try clear hx220_0
                try clear hx220_1
                try clear hx220_2
                try clear hx220_3
                try clear hx222_0
                try clear hx222_1
                try clear hx222_2
                try clear hx222_3
                try clear p2
                try clear p220
                try clear p222
                try clear q220
                try clear q222
                try clear q33
                try clear q35
                obtain ⟨x11_2, x12_2, rfl, HA, HK2, HO_5, HO_11, HB⟩ := hrel
                cases gk with
                | zero => exact absurd HA.out (by simp [monticulelaw28_PlanSound.l2])
                | succ k2 =>
                  have H := HA.out
                  clear HA
                  simp only [monticulelaw28_PlanSound.l2] at H
                  by_cases c43 : x12_2 < (t207.length : Int)
                  · rw [if_pos c43] at H
                    have c43b0 : decide (x12_2 < (t207.length : Int)) = true := decide_eq_true c43
                    clear c43
                    have HC44 := Aside0.mk H
                    clear H
                    obtain ⟨Ao45, co45, eo45⟩ := Kd.R_slice HO_5.out
                    subst eo45
                    go_upto_region 21 with (fail)
                    repeat (go_quiet (fail); go_upto_region 21 with (fail))
                    go_cut [111] (fun v111 wc => ∃ (kq : Nat) (x111_43 : Bool), v111 = .bool x111_43 ∧ Aside0 (monticulelaw28_PlanSound.j4 kq l1 t207 x11_2 x12_2 x111_43 = some r) ∧ Aside0 (kq ≤ k2) ∧ Aside0 (Kd.R (Kd.int .i64) 3 wc w.heap.size (fun _ => True) (.slice Ao45 t207.length co45) t207) ∧ Aside0 (Kd.R Kd.string 9 wc w.heap.size (fun _ => True) u11 x11_2) ∧ Aside0 (Below w.heap.size w wc))
                    case first =>
                      have H := HC44.out
                      clear HC44
                      by_cases c46 : 0 ≤ x12_2
                      · rw [if_pos c46] at H
                        have c46b0 : decide (0 ≤ x12_2) = true := decide_eq_true c46
                        clear c46
                        (first | rw [c46b0] | (simp only [i64_w, i32_w]; rw [c46b0]) | skip)
                        by_cases c47 : (rd t207 x12_2) < 0
                        · rw [if_pos c47] at H
                          have c47b0 : decide ((rd t207 x12_2) < 0) = true := decide_eq_true c47
                          clear c47
                          have H' := Aside0.mk H
                          clear H
                          have p232 : 0 ≤ (x12_2 : Int) := of_decide_eq_true (by first | (with_reducible assumption) | assumption)
                          have q232 : x12_2 < (t207.length : Int) := of_decide_eq_true (by first | (with_reducible assumption) | assumption)
                          obtain ⟨ad232, e232, hx232_0⟩ := Kd.at_int (Kd.R_reads' HO_5.out).2.2 x12_2 p232 q232
                          cases e232
                          replace p232 := eq_true p232
                          replace q232 := eq_true q232
                          go_wp2
                          repeat (go_quiet (fail); try go_wp2)
                          go_meet
                          case rel => exact ⟨_, (true), (by first | rfl | (simp; done) | (simp [*]; done)), H', ⟨by have := HJ2.out; have := HK2.out; first | omega | exact Nat.le_refl _⟩, ⟨by (with_reducible repeat (first | apply Kd.R_alloc | apply Kd.R_drewN | apply Kd.R_drew)); exact HO_5.out⟩, ⟨by (with_reducible repeat (first | apply Kd.R_alloc | apply Kd.R_drewN | apply Kd.R_drew)); exact HO_11.out⟩, ⟨by repeat (first | (with_reducible first | exact HB.out | apply below_alloc | apply pw_below_drewN | apply below_drew1) | exact HB.out)⟩⟩
                        · rw [if_neg c47] at H
                          have c47b0 : decide ((rd t207 x12_2) < 0) = false := decide_eq_false c47
                          clear c47
                          by_cases c48 : (rd t207 x12_2) ≥ (l1.length : Int)
                          · rw [if_pos c48] at H
                            have c48b0 : decide ((l1.length : Int) ≤ (rd t207 x12_2)) = true := decide_eq_true c48
                            clear c48
                            have H' := Aside0.mk H
                            clear H
                            have p232 : 0 ≤ (x12_2 : Int) := of_decide_eq_true (by first | (with_reducible assumption) | assumption)
                            have q232 : x12_2 < (t207.length : Int) := of_decide_eq_true (by first | (with_reducible assumption) | assumption)
                            obtain ⟨ad232, e232, hx232_0⟩ := Kd.at_int (Kd.R_reads' HO_5.out).2.2 x12_2 p232 q232
                            cases e232
                            replace p232 := eq_true p232
                            replace q232 := eq_true q232
                            have p233 : 0 ≤ (x12_2 : Int) := of_decide_eq_true (by first | (with_reducible assumption) | assumption)
                            have q233 : x12_2 < (t207.length : Int) := of_decide_eq_true (by first | (with_reducible assumption) | assumption)
                            obtain ⟨ad233, e233, hx233_0⟩ := Kd.at_int (Kd.R_reads' HO_5.out).2.2 x12_2 p233 q233
                            obtain rfl : ad232 = ad233 := (by injection e233)
                            replace p233 := eq_true p233
                            replace q233 := eq_true q233
                            go_wp2
                            repeat (go_quiet (fail); try go_wp2)
                            go_meet
                            case rel => exact ⟨_, (true), (by first | rfl | (simp; done) | (simp [*]; done)), H', ⟨by have := HJ2.out; have := HK2.out; first | omega | exact Nat.le_refl _⟩, ⟨by (with_reducible repeat (first | apply Kd.R_alloc | apply Kd.R_drewN | apply Kd.R_drew)); exact HO_5.out⟩, ⟨by (with_reducible repeat (first | apply Kd.R_alloc | apply Kd.R_drewN | apply Kd.R_drew)); exact HO_11.out⟩, ⟨by repeat (first | (with_reducible first | exact HB.out | apply below_alloc | apply pw_below_drewN | apply below_drew1) | exact HB.out)⟩⟩
                          · rw [if_neg c48] at H
                            have c48b0 : decide ((l1.length : Int) ≤ (rd t207 x12_2)) = false := decide_eq_false c48
                            clear c48
                            by_cases c49 : x12_2 > 0
                            · rw [if_pos c49] at H
                              have c49b0 : decide (0 < x12_2) = true := decide_eq_true c49
                              clear c49
                              have H' := Aside0.mk H
                              clear H
                              have p232 : 0 ≤ (x12_2 : Int) := of_decide_eq_true (by first | (with_reducible assumption) | assumption)
                              have q232 : x12_2 < (t207.length : Int) := of_decide_eq_true (by first | (with_reducible assumption) | assumption)
                              obtain ⟨ad232, e232, hx232_0⟩ := Kd.at_int (Kd.R_reads' HO_5.out).2.2 x12_2 p232 q232
                              cases e232
                              replace p232 := eq_true p232
                              replace q232 := eq_true q232
                              have p233 : 0 ≤ (x12_2 : Int) := of_decide_eq_true (by first | (with_reducible assumption) | assumption)
                              have q233 : x12_2 < (t207.length : Int) := of_decide_eq_true (by first | (with_reducible assumption) | assumption)
                              obtain ⟨ad233, e233, hx233_0⟩ := Kd.at_int (Kd.R_reads' HO_5.out).2.2 x12_2 p233 q233
                              obtain rfl : ad232 = ad233 := (by injection e233)
                              replace p233 := eq_true p233
                              replace q233 := eq_true q233
                              go_wp2
                              repeat (go_quiet (fail); try go_wp2)
                              go_meet
                              case rel => exact ⟨_, (((t207.length : Int) != (l1.length : Int))), (by first | rfl | (simp; done) | (simp [*]; done)), H', ⟨by have := HJ2.out; have := HK2.out; first | omega | exact Nat.le_refl _⟩, ⟨by (with_reducible repeat (first | apply Kd.R_alloc | apply Kd.R_drewN | apply Kd.R_drew)); exact HO_5.out⟩, ⟨by (with_reducible repeat (first | apply Kd.R_alloc | apply Kd.R_drewN | apply Kd.R_drew)); exact HO_11.out⟩, ⟨by repeat (first | (with_reducible first | exact HB.out | apply below_alloc | apply pw_below_drewN | apply below_drew1) | exact HB.out)⟩⟩
                            · rw [if_neg c49] at H
                              have c49b0 : decide (0 < x12_2) = false := decide_eq_false c49
                              clear c49
                              have H' := Aside0.mk H
                              clear H
                              have p232 : 0 ≤ (x12_2 : Int) := of_decide_eq_true (by first | (with_reducible assumption) | assumption)
                              have q232 : x12_2 < (t207.length : Int) := of_decide_eq_true (by first | (with_reducible assumption) | assumption)
                              obtain ⟨ad232, e232, hx232_0⟩ := Kd.at_int (Kd.R_reads' HO_5.out).2.2 x12_2 p232 q232
                              cases e232
                              replace p232 := eq_true p232
                              replace q232 := eq_true q232
                              have p233 : 0 ≤ (x12_2 : Int) := of_decide_eq_true (by first | (with_reducible assumption) | assumption)
                              have q233 : x12_2 < (t207.length : Int) := of_decide_eq_true (by first | (with_reducible assumption) | assumption)
                              obtain ⟨ad233, e233, hx233_0⟩ := Kd.at_int (Kd.R_reads' HO_5.out).2.2 x12_2 p233 q233
                              obtain rfl : ad232 = ad233 := (by injection e233)
                              replace p233 := eq_true p233
                              replace q233 := eq_true q233
                              go_wp2
                              repeat (go_quiet (fail); try go_wp2)
                              go_meet
                              case rel => exact ⟨_, (false), (by first | rfl | (simp; done) | (simp [*]; done)), H', ⟨by have := HJ2.out; have := HK2.out; first | omega | exact Nat.le_refl _⟩, ⟨by (with_reducible repeat (first | apply Kd.R_alloc | apply Kd.R_drewN | apply Kd.R_drew)); exact HO_5.out⟩, ⟨by (with_reducible repeat (first | apply Kd.R_alloc | apply Kd.R_drewN | apply Kd.R_drew)); exact HO_11.out⟩, ⟨by repeat (first | (with_reducible first | exact HB.out | apply below_alloc | apply pw_below_drewN | apply below_drew1) | exact HB.out)⟩⟩
                      · rw [if_neg c46] at H
                        exact absurd H (by simp)
                    case rest =>
                      clear HC44
                      try clear c1
                      try clear c2
                      try clear p2
                      try clear q2
                      try clear hx2
                      try clear c3
                      try clear q3
                      try clear c4
                      try clear c5
                      try clear p6
                      try clear c7
                      try clear c13
                      try clear c17
                      try clear c17b0
                      try clear c17b1
                      try clear c21
                      try clear c21b0
                      try clear c22
                      try clear c22b0
                      try clear p22
                      try clear q22
                      try clear hx22
                      try clear c23
                      try clear c23b0
                      try clear p23
                      try clear q23
                      try clear hx23
                      try clear c25
                      try clear c26
                      try clear c30
                      try clear c30b0
                      try clear c30b1
                      try clear c32
                      try clear c33
                      try clear q33
                      try clear c35
                      try clear q35
                      try clear c37
                      try clear c37b0
                      try clear c37b1
                      try clear c38
                      try clear c43
                      try clear c43b0
                      try clear c46
                      try clear c46b0
                      try clear c47
                      try clear c47b0
                      try clear c48
                      try clear c48b0
                      try clear c49
                      try clear c49b0
                      try clear hx220_0
                      try clear hx220_1
                      try clear hx220_2
                      try clear hx220_3
                      try clear hx222_0
                      try clear hx222_1
                      try clear hx222_2
                      try clear hx222_3
                      try clear hx232_0
                      try clear hx233_0
                      try clear p2
                      try clear p22
                      try clear p220
                      try clear p222
                      try clear p232
                      try clear p233
                      try clear p6
                      try clear q2
                      try clear q22
                      try clear q220
                      try clear q222
                      try clear q232
                      try clear q233
                      try clear q3
                      try clear q33
                      try clear q35
                      obtain ⟨kq, x111_43, rfl, HA, HJ43, HO_5, HO_11, HB⟩ := hcut
                      cases kq with
                      | zero => exact absurd HA.out (by simp [monticulelaw28_PlanSound.j4])
                      | succ kj43 =>
                        have H := HA.out
                        clear HA
                        simp only [monticulelaw28_PlanSound.j4] at H
                        by_cases c50 : x111_43 = true
                        · subst c50
                          have H1 : (some false) = some r := by rw [if_pos rfl] at H; exact H
                          clear H
                          have H := H1
                          clear H1
                          obtain rfl := Option.some.inj H
                          go_wp2
                          repeat (go_quiet (fail); try go_wp2)
                          go_ret
                          exact ⟨by first | rfl | (simp [errW_none, errW_some] <;> rfl) | (simp [*, errW_none, errW_some] <;> rfl), by repeat (first | (with_reducible first | exact HB.out | apply below_alloc | apply pw_below_drewN | apply below_drew1) | exact HB.out)⟩
                        · replace c50 := Bool.eq_false_iff.mpr c50
                          subst c50
                          have H1 : (if 0 ≤ x12_2 then (if x12_2 < (t207.length : Int) then (if 0 ≤ (rd t207 x12_2) then (if (rd t207 x12_2) < (l1.length : Int) then (monticulelaw28_PlanSound.l3 kj43 l1 t207 x11_2 x12_2 0 ((rd_T34 l1 (rd t207 x12_2)).f0) ((rd_T34 l1 (rd t207 x12_2)).f1) ((rd_T34 l1 (rd t207 x12_2)).f2) ((rd_T34 l1 (rd t207 x12_2)).f3)) else (none)) else (none)) else (none)) else (none)) = some r := by rw [if_neg (show ¬ (false = true) by decide)] at H; exact H
                          clear H
                          have H := H1
                          clear H1
                          by_cases c51 : 0 ≤ x12_2
                          · rw [if_pos c51] at H
                            have c51b0 : decide (0 ≤ x12_2) = true := decide_eq_true c51
                            clear c51
                            by_cases c52 : x12_2 < (t207.length : Int)
                            · rw [if_pos c52] at H
                              have c52b0 : decide (x12_2 < (t207.length : Int)) = true := decide_eq_true c52
                              clear c52
                              by_cases c53 : 0 ≤ (rd t207 x12_2)
                              · rw [if_pos c53] at H
                                have c53b0 : decide (0 ≤ (rd t207 x12_2)) = true := decide_eq_true c53
                                clear c53
                                by_cases c54 : (rd t207 x12_2) < (l1.length : Int)
                                · rw [if_pos c54] at H
                                  have c54b0 : decide ((rd t207 x12_2) < (l1.length : Int)) = true := decide_eq_true c54
                                  clear c54
                                  have H' := Aside0.mk H
                                  clear H
                                  have p234 : 0 ≤ (x12_2 : Int) := of_decide_eq_true (by first | (with_reducible assumption) | assumption)
                                  have q234 : x12_2 < (t207.length : Int) := of_decide_eq_true (by first | (with_reducible assumption) | assumption)
                                  obtain ⟨ad234, e234, hx234_0⟩ := Kd.at_int (Kd.R_reads' HO_5.out).2.2 x12_2 p234 q234
                                  cases e234
                                  replace p234 := eq_true p234
                                  replace q234 := eq_true q234
                                  have p235 : 0 ≤ ((rd t207 x12_2) : Int) := of_decide_eq_true (by first | (with_reducible assumption) | assumption)
                                  have q235 : (rd t207 x12_2) < (l1.length : Int) := of_decide_eq_true (by first | (with_reducible assumption) | assumption)
                                  obtain ⟨ad235, A235_2, c235_2, A235_3, c235_3, e235, hx235_0, hx235_1, hx235_2, hx235_3, hl235_2, hi235_2, hl235_3, hi235_3⟩ := at_T34 HR1.out (rd t207 x12_2) p235 q235
                                  cases e235
                                  replace hx235_0 := (HB.out.cell (World.block_lt_of_cell? w _ hx235_0)).trans hx235_0
                                  replace hx235_1 := (HB.out.cell (World.block_lt_of_cell? w _ hx235_1)).trans hx235_1
                                  replace hx235_2 := (HB.out.cell (World.block_lt_of_cell? w _ hx235_2)).trans hx235_2
                                  replace hx235_3 := (HB.out.cell (World.block_lt_of_cell? w _ hx235_3)).trans hx235_3
                                  have HR235_2 := Aside0.mk hi235_2
                                  have HC235_2 := Aside0.mk hl235_2
                                  clear hi235_2 hl235_2
                                  have HR235_3 := Aside0.mk hi235_3
                                  have HC235_3 := Aside0.mk hl235_3
                                  clear hi235_3 hl235_3
                                  replace p235 := eq_true p235
                                  replace q235 := eq_true q235
                                  go_wp2_with (first | ((with_reducible refine gate_dst (N := 13) rfl ?_); (try (refine gate_guard (by rfl) ?_; dsimp only)); refine box_event ?hg (N := 13) ?hd (cs := #[.string (⟨#[]⟩ : ByteArray), .int .i64 0, .slice none 0 0, .slice none 0 0]) (t := 34) ?hr ?_; (case hd => rfl); (case hg => rfl); (case hr => first | (go_simp; done) | (go_simp; rfl)); intro gb236 hg w55 hbox hb; have n0_ := Aside0.mk (Kd.R_below (by (with_reducible repeat (first | apply Kd.R_alloc | apply Kd.R_drewN | apply Kd.R_drew)); exact HO_5.out) hb); have n1_ := Aside0.mk (Kd.R_below (by (with_reducible repeat (first | apply Kd.R_alloc | apply Kd.R_drewN | apply Kd.R_drew)); exact HO_11.out) hb); have n2_ := Aside0.mk (below_step (by repeat (first | (with_reducible first | exact HB.out | apply below_alloc | apply pw_below_drewN | apply below_drew1) | exact HB.out)) hb); have n3_ := Aside0.mk (hbox); have n4_ := Aside0.mk ((by rw [hg]; exact (below_size (by repeat (first | (with_reducible first | exact HB.out | apply below_alloc | apply pw_below_drewN | apply below_drew1) | exact HB.out))) : w.heap.size ≤ gb236)); have n5_ := Aside0.mk ((by rw [hg]; exact (below_size (by repeat (first | (with_reducible first | exact HB.out | apply below_alloc | apply pw_below_drewN | apply below_drew1) | exact HB.out))) : w.heap.size ≤ gb236)); clear HO_5; clear HO_11; clear HB; have HO_5 := n0_; have HO_11 := n1_; have HB := n2_; have BK236 := n3_; have GW236 := n4_; have GE236 := n5_; clear n0_ n1_ n2_ n3_ n4_ n5_; clear hb hbox hg; have hcz56_0 : w55.cell? ⟨gb236, 0, none⟩ = some (.string (⟨#[]⟩ : ByteArray)) := (blk_cell BK236.out 0).trans rfl; have hcz56_1 : w55.cell? ⟨gb236, 1, none⟩ = some (.int .i64 0) := (blk_cell BK236.out 1).trans rfl; have hcz56_2 : w55.cell? ⟨gb236, 2, none⟩ = some (.slice none 0 0) := (blk_cell BK236.out 2).trans rfl; have hcz56_3 : w55.cell? ⟨gb236, 3, none⟩ = some (.slice none 0 0) := (blk_cell BK236.out 3).trans rfl; have hfz56_0 := blk_frozen BK236.out 0; have hfz56_1 := blk_frozen BK236.out 1; have hfz56_2 := blk_frozen BK236.out 2; have hfz56_3 := blk_frozen BK236.out 3))
                                  repeat (go_quiet (first | ((with_reducible refine gate_dst (N := 13) rfl ?_); (try (refine gate_guard (by rfl) ?_; dsimp only)); refine box_event ?hg (N := 13) ?hd (cs := #[.string (⟨#[]⟩ : ByteArray), .int .i64 0, .slice none 0 0, .slice none 0 0]) (t := 34) ?hr ?_; (case hd => rfl); (case hg => rfl); (case hr => first | (go_simp; done) | (go_simp; rfl)); intro gb236 hg w55 hbox hb; have n0_ := Aside0.mk (Kd.R_below (by (with_reducible repeat (first | apply Kd.R_alloc | apply Kd.R_drewN | apply Kd.R_drew)); exact HO_5.out) hb); have n1_ := Aside0.mk (Kd.R_below (by (with_reducible repeat (first | apply Kd.R_alloc | apply Kd.R_drewN | apply Kd.R_drew)); exact HO_11.out) hb); have n2_ := Aside0.mk (below_step (by repeat (first | (with_reducible first | exact HB.out | apply below_alloc | apply pw_below_drewN | apply below_drew1) | exact HB.out)) hb); have n3_ := Aside0.mk (hbox); have n4_ := Aside0.mk ((by rw [hg]; exact (below_size (by repeat (first | (with_reducible first | exact HB.out | apply below_alloc | apply pw_below_drewN | apply below_drew1) | exact HB.out))) : w.heap.size ≤ gb236)); have n5_ := Aside0.mk ((by rw [hg]; exact (below_size (by repeat (first | (with_reducible first | exact HB.out | apply below_alloc | apply pw_below_drewN | apply below_drew1) | exact HB.out))) : w.heap.size ≤ gb236)); clear HO_5; clear HO_11; clear HB; have HO_5 := n0_; have HO_11 := n1_; have HB := n2_; have BK236 := n3_; have GW236 := n4_; have GE236 := n5_; clear n0_ n1_ n2_ n3_ n4_ n5_; clear hb hbox hg; have hcz56_0 : w55.cell? ⟨gb236, 0, none⟩ = some (.string (⟨#[]⟩ : ByteArray)) := (blk_cell BK236.out 0).trans rfl; have hcz56_1 : w55.cell? ⟨gb236, 1, none⟩ = some (.int .i64 0) := (blk_cell BK236.out 1).trans rfl; have hcz56_2 : w55.cell? ⟨gb236, 2, none⟩ = some (.slice none 0 0) := (blk_cell BK236.out 2).trans rfl; have hcz56_3 : w55.cell? ⟨gb236, 3, none⟩ = some (.slice none 0 0) := (blk_cell BK236.out 3).trans rfl; have hfz56_0 := blk_frozen BK236.out 0; have hfz56_1 := blk_frozen BK236.out 1; have hfz56_2 := blk_frozen BK236.out 2; have hfz56_3 := blk_frozen BK236.out 3)); try go_wp2_with (first | ((with_reducible refine gate_dst (N := 13) rfl ?_); (try (refine gate_guard (by rfl) ?_; dsimp only)); refine box_event ?hg (N := 13) ?hd (cs := #[.string (⟨#[]⟩ : ByteArray), .int .i64 0, .slice none 0 0, .slice none 0 0]) (t := 34) ?hr ?_; (case hd => rfl); (case hg => rfl); (case hr => first | (go_simp; done) | (go_simp; rfl)); intro gb236 hg w55 hbox hb; have n0_ := Aside0.mk (Kd.R_below (by (with_reducible repeat (first | apply Kd.R_alloc | apply Kd.R_drewN | apply Kd.R_drew)); exact HO_5.out) hb); have n1_ := Aside0.mk (Kd.R_below (by (with_reducible repeat (first | apply Kd.R_alloc | apply Kd.R_drewN | apply Kd.R_drew)); exact HO_11.out) hb); have n2_ := Aside0.mk (below_step (by repeat (first | (with_reducible first | exact HB.out | apply below_alloc | apply pw_below_drewN | apply below_drew1) | exact HB.out)) hb); have n3_ := Aside0.mk (hbox); have n4_ := Aside0.mk ((by rw [hg]; exact (below_size (by repeat (first | (with_reducible first | exact HB.out | apply below_alloc | apply pw_below_drewN | apply below_drew1) | exact HB.out))) : w.heap.size ≤ gb236)); have n5_ := Aside0.mk ((by rw [hg]; exact (below_size (by repeat (first | (with_reducible first | exact HB.out | apply below_alloc | apply pw_below_drewN | apply below_drew1) | exact HB.out))) : w.heap.size ≤ gb236)); clear HO_5; clear HO_11; clear HB; have HO_5 := n0_; have HO_11 := n1_; have HB := n2_; have BK236 := n3_; have GW236 := n4_; have GE236 := n5_; clear n0_ n1_ n2_ n3_ n4_ n5_; clear hb hbox hg; have hcz56_0 : w55.cell? ⟨gb236, 0, none⟩ = some (.string (⟨#[]⟩ : ByteArray)) := (blk_cell BK236.out 0).trans rfl; have hcz56_1 : w55.cell? ⟨gb236, 1, none⟩ = some (.int .i64 0) := (blk_cell BK236.out 1).trans rfl; have hcz56_2 : w55.cell? ⟨gb236, 2, none⟩ = some (.slice none 0 0) := (blk_cell BK236.out 2).trans rfl; have hcz56_3 : w55.cell? ⟨gb236, 3, none⟩ = some (.slice none 0 0) := (blk_cell BK236.out 3).trans rfl; have hfz56_0 := blk_frozen BK236.out 0; have hfz56_1 := blk_frozen BK236.out 1; have hfz56_2 := blk_frozen BK236.out 2; have hfz56_3 := blk_frozen BK236.out 3)))
                                  go_loopg [14] kj43 (fun kq v14 w' => ∃ (x14_4 : Int), v14 = .int .i64 x14_4 ∧ Aside0 (monticulelaw28_PlanSound.l3 kq l1 t207 x11_2 x12_2 x14_4 ((rd_T34 l1 (rd t207 x12_2)).f0) ((rd_T34 l1 (rd t207 x12_2)).f1) ((rd_T34 l1 (rd t207 x12_2)).f2) ((rd_T34 l1 (rd t207 x12_2)).f3) = some r) ∧ Aside0 (kq ≤ kj43) ∧ Aside0 (Kd.R (Kd.int .i64) 3 w' w.heap.size (fun _ => True) (.slice (some ad234) t207.length co45) t207) ∧ Aside0 (Kd.R Kd.string 9 w' w.heap.size (fun _ => True) u11 x11_2) ∧ Aside0 (w'.heap[gb236]? = some (.cells #[.string ((rd_T34 l1 (rd t207 x12_2)).f0), .int .i64 ((rd_T34 l1 (rd t207 x12_2)).f1), (.slice A235_2 ((rd_T34 l1 (rd t207 x12_2)).f2).length c235_2), (.slice A235_3 ((rd_T34 l1 (rd t207 x12_2)).f3).length c235_3)] 34 (0, 0))) ∧ Aside0 (Below w.heap.size w w'))
                                  case atStart => exact ⟨(0), (by first | rfl | (simp; done) | (simp [*]; done)), H', ⟨Nat.le_refl _⟩, ⟨by (with_reducible repeat (first | apply Kd.R_alloc | apply Kd.R_drewN | apply Kd.R_drew)); exact Kd.R_mono (Kd.R_far (p := ⟨gb236, 3, none⟩) (Kd.R_far (p := ⟨gb236, 2, none⟩) (Kd.R_far (p := ⟨gb236, 1, none⟩) (Kd.R_far (p := ⟨gb236, 0, none⟩) (Kd.R_types HO_5.out BK236.out (by decide)) (fun _ hk => hk.2) (.string ((rd_T34 l1 (rd t207 x12_2)).f0))) (fun _ hk => hk.2) (.int .i64 ((rd_T34 l1 (rd t207 x12_2)).f1))) (fun _ hk => hk.2) (.slice A235_2 ((rd_T34 l1 (rd t207 x12_2)).f2).length c235_2)) (fun _ hk => hk.2) (.slice A235_3 ((rd_T34 l1 (rd t207 x12_2)).f3).length c235_3)) (fun _ hk => trivial)⟩, ⟨by (with_reducible repeat (first | apply Kd.R_alloc | apply Kd.R_drewN | apply Kd.R_drew)); exact Kd.R_mono (Kd.R_far (p := ⟨gb236, 3, none⟩) (Kd.R_far (p := ⟨gb236, 2, none⟩) (Kd.R_far (p := ⟨gb236, 1, none⟩) (Kd.R_far (p := ⟨gb236, 0, none⟩) (Kd.R_types HO_11.out BK236.out (by decide)) (fun _ hk => hk.2) (.string ((rd_T34 l1 (rd t207 x12_2)).f0))) (fun _ hk => hk.2) (.int .i64 ((rd_T34 l1 (rd t207 x12_2)).f1))) (fun _ hk => hk.2) (.slice A235_2 ((rd_T34 l1 (rd t207 x12_2)).f2).length c235_2)) (fun _ hk => hk.2) (.slice A235_3 ((rd_T34 l1 (rd t207 x12_2)).f3).length c235_3)) (fun _ hk => trivial)⟩, ⟨by (with_reducible repeat (first | refine blk_drewN ?_ _ | refine blk_drew ?_ | refine blk_alloc ?_ _)); refine blk_put (cs := #[.string ((rd_T34 l1 (rd t207 x12_2)).f0), .int .i64 ((rd_T34 l1 (rd t207 x12_2)).f1), .slice A235_2 ((rd_T34 l1 (rd t207 x12_2)).f2).length c235_2, .slice none 0 0]) ?_ 3 _ rfl; (with_reducible repeat (first | refine blk_drewN ?_ _ | refine blk_drew ?_ | refine blk_alloc ?_ _)); refine blk_put (cs := #[.string ((rd_T34 l1 (rd t207 x12_2)).f0), .int .i64 ((rd_T34 l1 (rd t207 x12_2)).f1), .slice none 0 0, .slice none 0 0]) ?_ 2 _ rfl; (with_reducible repeat (first | refine blk_drewN ?_ _ | refine blk_drew ?_ | refine blk_alloc ?_ _)); refine blk_put (cs := #[.string ((rd_T34 l1 (rd t207 x12_2)).f0), .int .i64 0, .slice none 0 0, .slice none 0 0]) ?_ 1 _ rfl; (with_reducible repeat (first | refine blk_drewN ?_ _ | refine blk_drew ?_ | refine blk_alloc ?_ _)); refine blk_put (cs := #[.string (⟨#[]⟩ : ByteArray), .int .i64 0, .slice none 0 0, .slice none 0 0]) ?_ 0 _ rfl; (with_reducible repeat (first | refine blk_drewN ?_ _ | refine blk_drew ?_ | refine blk_alloc ?_ _)); exact BK236.out⟩, ⟨by repeat (first | (with_reducible first | exact HB.out | apply below_alloc | apply pw_below_drewN | apply below_drew1 | refine below_set ?_ GE236.out) | exact HB.out)⟩⟩
                                  case round =>
                                    clear H'
                                    try clear c1
                                    try clear c2
                                    try clear p2
                                    try clear q2
                                    try clear hx2
                                    try clear c3
                                    try clear q3
                                    try clear c4
                                    try clear c5
                                    try clear p6
                                    try clear c7
                                    try clear c13
                                    try clear c17
                                    try clear c17b0
                                    try clear c17b1
                                    try clear c21
                                    try clear c21b0
                                    try clear c22
                                    try clear c22b0
                                    try clear p22
                                    try clear q22
                                    try clear hx22
                                    try clear c23
                                    try clear c23b0
                                    try clear p23
                                    try clear q23
                                    try clear hx23
                                    try clear c25
                                    try clear c26
                                    try clear c30
                                    try clear c30b0
                                    try clear c30b1
                                    try clear c32
                                    try clear c33
                                    try clear q33
                                    try clear c35
                                    try clear q35
                                    try clear c37
                                    try clear c37b0
                                    try clear c37b1
                                    try clear c38
                                    try clear c43
                                    try clear c43b0
                                    try clear c46
                                    try clear c46b0
                                    try clear c47
                                    try clear c47b0
                                    try clear c48
                                    try clear c48b0
                                    try clear c49
                                    try clear c49b0
                                    try clear c50
                                    try clear c51
                                    try clear c51b0
                                    try clear c52
                                    try clear c52b0
                                    try clear c53
                                    try clear c53b0
                                    try clear c54
                                    try clear c54b0
                                    try clear hcz56_0
                                    try clear hcz56_1
                                    try clear hcz56_2
                                    try clear hcz56_3
                                    try clear hfz56_0
                                    try clear hfz56_1
                                    try clear hfz56_2
                                    try clear hfz56_3
                                    try clear hx220_0
                                    try clear hx220_1
                                    try clear hx220_2
                                    try clear hx220_3
                                    try clear hx222_0
                                    try clear hx222_1
                                    try clear hx222_2
                                    try clear hx222_3
                                    try clear hx232_0
                                    try clear hx233_0
                                    try clear hx234_0
                                    try clear hx235_0
                                    try clear hx235_1
                                    try clear hx235_2
                                    try clear hx235_3
                                    try clear p2
                                    try clear p22
                                    try clear p220
                                    try clear p222
                                    try clear p23
                                    try clear p232
                                    try clear p233
                                    try clear p234
                                    try clear p235
                                    try clear p6
                                    try clear q2
                                    try clear q22
                                    try clear q220
                                    try clear q222
                                    try clear q23
                                    try clear q232
                                    try clear q233
                                    try clear q234
                                    try clear q235
                                    try clear q3
                                    try clear q33
                                    try clear q35
                                    obtain ⟨x14_4, rfl, HA, HK4, HO_5, HO_11, BK236, HB⟩ := hrel
                                    cases gk with
                                    | zero => exact absurd HA.out (by simp [monticulelaw28_PlanSound.l3])
                                    | succ k4 =>
                                      have H := HA.out
                                      clear HA
                                      simp only [monticulelaw28_PlanSound.l3] at H
                                      by_cases c57 : x14_4 < (((rd_T34 l1 (rd t207 x12_2)).f2).length : Int)
                                      · rw [if_pos c57] at H
                                        have c57b0 : decide (x14_4 < (((rd_T34 l1 (rd t207 x12_2)).f2).length : Int)) = true := decide_eq_true c57
                                        clear c57
                                        by_cases c58 : 0 ≤ x14_4
                                        · rw [if_pos c58] at H
                                          have c58b0 : decide (0 ≤ x14_4) = true := decide_eq_true c58
                                          clear c58
                                          replace H := Option.bind_eq_some_iff.mp H
                                          obtain ⟨t238, A590, H⟩ := H
                                          replace H : (if t238 = true then (monticulelaw28_PlanSound.l3 k4 l1 t207 x11_2 x12_2 (wrap64 (x14_4 + 1)) ((rd_T34 l1 (rd t207 x12_2)).f0) ((rd_T34 l1 (rd t207 x12_2)).f1) ((rd_T34 l1 (rd t207 x12_2)).f2) ((rd_T34 l1 (rd t207 x12_2)).f3)) else (some false)) = some r := H
                                          have A59 := Aside0.mk A590
                                          clear A590
                                          by_cases c60 : t238 = true
                                          · subst c60
                                            have H1 : (monticulelaw28_PlanSound.l3 k4 l1 t207 x11_2 x12_2 (wrap64 (x14_4 + 1)) ((rd_T34 l1 (rd t207 x12_2)).f0) ((rd_T34 l1 (rd t207 x12_2)).f1) ((rd_T34 l1 (rd t207 x12_2)).f2) ((rd_T34 l1 (rd t207 x12_2)).f3)) = some r := by rw [if_pos rfl] at H; exact H
                                            clear H
                                            have H := H1
                                            clear H1
                                            have H' := Aside0.mk H
                                            clear H
                                            have hcz61_0 : wr.cell? ⟨gb236, 0, none⟩ = some (.string ((rd_T34 l1 (rd t207 x12_2)).f0)) := (blk_cell BK236.out 0).trans rfl
                                            have hcz61_1 : wr.cell? ⟨gb236, 1, none⟩ = some (.int .i64 ((rd_T34 l1 (rd t207 x12_2)).f1)) := (blk_cell BK236.out 1).trans rfl
                                            have hcz61_2 : wr.cell? ⟨gb236, 2, none⟩ = some (.slice A235_2 ((rd_T34 l1 (rd t207 x12_2)).f2).length c235_2) := (blk_cell BK236.out 2).trans rfl
                                            have hcz61_3 : wr.cell? ⟨gb236, 3, none⟩ = some (.slice A235_3 ((rd_T34 l1 (rd t207 x12_2)).f3).length c235_3) := (blk_cell BK236.out 3).trans rfl
                                            have hfz61_0 := blk_frozen BK236.out 0
                                            have hfz61_1 := blk_frozen BK236.out 1
                                            have hfz61_2 := blk_frozen BK236.out 2
                                            have hfz61_3 := blk_frozen BK236.out 3
                                            have p237 : 0 ≤ (x14_4 : Int) := of_decide_eq_true (by first | (with_reducible assumption) | assumption)
                                            have q237 : x14_4 < (((rd_T34 l1 (rd t207 x12_2)).f2).length : Int) := of_decide_eq_true (by first | (with_reducible assumption) | assumption)
                                            obtain ⟨ad237, e237, hx237_0⟩ := Kd.at_string HR235_2.out x14_4 p237 q237
                                            cases e237
                                            replace hx237_0 := (HB.out.cell (World.block_lt_of_cell? w _ hx237_0)).trans hx237_0
                                            replace p237 := eq_true p237
                                            replace q237 := eq_true q237
                                            obtain ⟨Ao62, co62, eo62⟩ := Kd.R_slice HO_11.out
                                            subst eo62
                                            go_wp2_with (first | (go_at_call 11; (with_reducible refine (monticuleref06_In.calls k4 _ _ x11_2 (rdOf ByteArray.empty ((rd_T34 l1 (rd t207 x12_2)).f2) x14_4) true _ ?side1 ?side2 A59.out).mono ?_); (case side1 => repeat (first | exact (Kd.R_reads' HO_11.out).2.2 | (with_reducible refine Kd.C_alloc ?_ _) | (with_reducible refine Kd.C_drewN ?_ _) | (with_reducible refine Kd.C_drew ?_))); (case side2 => exact (Kd.R_reads' HO_11.out).2.1); rintro e w' ⟨rfl, ⟨nd, rfl⟩⟩; (try first | exact ⟨rfl, _, World.drewN_drewN _ _ _⟩ | exact ⟨rfl, _, Eq.trans (World.drewN_drewN _ _ _) (congrArg (World.drewN _) (Nat.add_assoc _ _ _))⟩)))
                                            repeat (go_quiet (first | (go_at_call 11; (with_reducible refine (monticuleref06_In.calls k4 _ _ x11_2 (rdOf ByteArray.empty ((rd_T34 l1 (rd t207 x12_2)).f2) x14_4) true _ ?side1 ?side2 A59.out).mono ?_); (case side1 => repeat (first | exact (Kd.R_reads' HO_11.out).2.2 | (with_reducible refine Kd.C_alloc ?_ _) | (with_reducible refine Kd.C_drewN ?_ _) | (with_reducible refine Kd.C_drew ?_))); (case side2 => exact (Kd.R_reads' HO_11.out).2.1); rintro e w' ⟨rfl, ⟨nd, rfl⟩⟩; (try first | exact ⟨rfl, _, World.drewN_drewN _ _ _⟩ | exact ⟨rfl, _, Eq.trans (World.drewN_drewN _ _ _) (congrArg (World.drewN _) (Nat.add_assoc _ _ _))⟩))); try go_wp2_with (first | (go_at_call 11; (with_reducible refine (monticuleref06_In.calls k4 _ _ x11_2 (rdOf ByteArray.empty ((rd_T34 l1 (rd t207 x12_2)).f2) x14_4) true _ ?side1 ?side2 A59.out).mono ?_); (case side1 => repeat (first | exact (Kd.R_reads' HO_11.out).2.2 | (with_reducible refine Kd.C_alloc ?_ _) | (with_reducible refine Kd.C_drewN ?_ _) | (with_reducible refine Kd.C_drew ?_))); (case side2 => exact (Kd.R_reads' HO_11.out).2.1); rintro e w' ⟨rfl, ⟨nd, rfl⟩⟩; (try first | exact ⟨rfl, _, World.drewN_drewN _ _ _⟩ | exact ⟨rfl, _, Eq.trans (World.drewN_drewN _ _ _) (congrArg (World.drewN _) (Nat.add_assoc _ _ _))⟩))))
                                            go_roundg k4
                                            case measure => have := HJ2.out; have := HK2.out; have := HJ43.out; have := HK4.out; omega
                                            case rel => exact ⟨(wrap64 (x14_4 + 1)), (by first | rfl | (simp; done) | (simp [*]; done)), H', ⟨by have := HJ2.out; have := HK2.out; have := HJ43.out; have := HK4.out; omega⟩, ⟨by (with_reducible repeat (first | apply Kd.R_alloc | apply Kd.R_drewN | apply Kd.R_drew)); exact HO_5.out⟩, ⟨by (with_reducible repeat (first | apply Kd.R_alloc | apply Kd.R_drewN | apply Kd.R_drew)); exact HO_11.out⟩, ⟨by (with_reducible repeat (first | refine blk_drewN ?_ _ | refine blk_drew ?_ | refine blk_alloc ?_ _)); exact BK236.out⟩, ⟨by repeat (first | (with_reducible first | exact HB.out | apply below_alloc | apply pw_below_drewN | apply below_drew1 | refine below_set ?_ GE236.out) | exact HB.out)⟩⟩
                                          · replace c60 := Bool.eq_false_iff.mpr c60
                                            subst c60
                                            have H1 : (some false) = some r := by rw [if_neg (show ¬ (false = true) by decide)] at H; exact H
                                            clear H
                                            have H := H1
                                            clear H1
                                            obtain rfl := Option.some.inj H
                                            have hcz63_0 : wr.cell? ⟨gb236, 0, none⟩ = some (.string ((rd_T34 l1 (rd t207 x12_2)).f0)) := (blk_cell BK236.out 0).trans rfl
                                            have hcz63_1 : wr.cell? ⟨gb236, 1, none⟩ = some (.int .i64 ((rd_T34 l1 (rd t207 x12_2)).f1)) := (blk_cell BK236.out 1).trans rfl
                                            have hcz63_2 : wr.cell? ⟨gb236, 2, none⟩ = some (.slice A235_2 ((rd_T34 l1 (rd t207 x12_2)).f2).length c235_2) := (blk_cell BK236.out 2).trans rfl
                                            have hcz63_3 : wr.cell? ⟨gb236, 3, none⟩ = some (.slice A235_3 ((rd_T34 l1 (rd t207 x12_2)).f3).length c235_3) := (blk_cell BK236.out 3).trans rfl
                                            have hfz63_0 := blk_frozen BK236.out 0
                                            have hfz63_1 := blk_frozen BK236.out 1
                                            have hfz63_2 := blk_frozen BK236.out 2
                                            have hfz63_3 := blk_frozen BK236.out 3
                                            have p237 : 0 ≤ (x14_4 : Int) := of_decide_eq_true (by first | (with_reducible assumption) | assumption)
                                            have q237 : x14_4 < (((rd_T34 l1 (rd t207 x12_2)).f2).length : Int) := of_decide_eq_true (by first | (with_reducible assumption) | assumption)
                                            obtain ⟨ad237, e237, hx237_0⟩ := Kd.at_string HR235_2.out x14_4 p237 q237
                                            cases e237
                                            replace hx237_0 := (HB.out.cell (World.block_lt_of_cell? w _ hx237_0)).trans hx237_0
                                            replace p237 := eq_true p237
                                            replace q237 := eq_true q237
                                            obtain ⟨Ao64, co64, eo64⟩ := Kd.R_slice HO_11.out
                                            subst eo64
                                            go_wp2_with (first | (go_at_call 11; (with_reducible refine (monticuleref06_In.calls k4 _ _ x11_2 (rdOf ByteArray.empty ((rd_T34 l1 (rd t207 x12_2)).f2) x14_4) false _ ?side1 ?side2 A59.out).mono ?_); (case side1 => repeat (first | exact (Kd.R_reads' HO_11.out).2.2 | (with_reducible refine Kd.C_alloc ?_ _) | (with_reducible refine Kd.C_drewN ?_ _) | (with_reducible refine Kd.C_drew ?_))); (case side2 => exact (Kd.R_reads' HO_11.out).2.1); rintro e w' ⟨rfl, ⟨nd, rfl⟩⟩; (try first | exact ⟨rfl, _, World.drewN_drewN _ _ _⟩ | exact ⟨rfl, _, Eq.trans (World.drewN_drewN _ _ _) (congrArg (World.drewN _) (Nat.add_assoc _ _ _))⟩)))
                                            repeat (go_quiet (first | (go_at_call 11; (with_reducible refine (monticuleref06_In.calls k4 _ _ x11_2 (rdOf ByteArray.empty ((rd_T34 l1 (rd t207 x12_2)).f2) x14_4) false _ ?side1 ?side2 A59.out).mono ?_); (case side1 => repeat (first | exact (Kd.R_reads' HO_11.out).2.2 | (with_reducible refine Kd.C_alloc ?_ _) | (with_reducible refine Kd.C_drewN ?_ _) | (with_reducible refine Kd.C_drew ?_))); (case side2 => exact (Kd.R_reads' HO_11.out).2.1); rintro e w' ⟨rfl, ⟨nd, rfl⟩⟩; (try first | exact ⟨rfl, _, World.drewN_drewN _ _ _⟩ | exact ⟨rfl, _, Eq.trans (World.drewN_drewN _ _ _) (congrArg (World.drewN _) (Nat.add_assoc _ _ _))⟩))); try go_wp2_with (first | (go_at_call 11; (with_reducible refine (monticuleref06_In.calls k4 _ _ x11_2 (rdOf ByteArray.empty ((rd_T34 l1 (rd t207 x12_2)).f2) x14_4) false _ ?side1 ?side2 A59.out).mono ?_); (case side1 => repeat (first | exact (Kd.R_reads' HO_11.out).2.2 | (with_reducible refine Kd.C_alloc ?_ _) | (with_reducible refine Kd.C_drewN ?_ _) | (with_reducible refine Kd.C_drew ?_))); (case side2 => exact (Kd.R_reads' HO_11.out).2.1); rintro e w' ⟨rfl, ⟨nd, rfl⟩⟩; (try first | exact ⟨rfl, _, World.drewN_drewN _ _ _⟩ | exact ⟨rfl, _, Eq.trans (World.drewN_drewN _ _ _) (congrArg (World.drewN _) (Nat.add_assoc _ _ _))⟩))))
                                            go_ret
                                            exact ⟨by first | rfl | (simp [errW_none, errW_some] <;> rfl) | (simp [*, errW_none, errW_some] <;> rfl), by repeat (first | (with_reducible first | exact HB.out | apply below_alloc | apply pw_below_drewN | apply below_drew1 | refine below_set ?_ GE236.out) | exact HB.out)⟩
                                        · rw [if_neg c58] at H
                                          exact absurd H (by simp)
                                      · rw [if_neg c57] at H
                                        have c57b0 : decide (x14_4 < (((rd_T34 l1 (rd t207 x12_2)).f2).length : Int)) = false := decide_eq_false c57
                                        clear c57
                                        have H' := Aside0.mk H
                                        clear H
                                        have hcz65_0 : wr.cell? ⟨gb236, 0, none⟩ = some (.string ((rd_T34 l1 (rd t207 x12_2)).f0)) := (blk_cell BK236.out 0).trans rfl
                                        have hcz65_1 : wr.cell? ⟨gb236, 1, none⟩ = some (.int .i64 ((rd_T34 l1 (rd t207 x12_2)).f1)) := (blk_cell BK236.out 1).trans rfl
                                        have hcz65_2 : wr.cell? ⟨gb236, 2, none⟩ = some (.slice A235_2 ((rd_T34 l1 (rd t207 x12_2)).f2).length c235_2) := (blk_cell BK236.out 2).trans rfl
                                        have hcz65_3 : wr.cell? ⟨gb236, 3, none⟩ = some (.slice A235_3 ((rd_T34 l1 (rd t207 x12_2)).f3).length c235_3) := (blk_cell BK236.out 3).trans rfl
                                        have hfz65_0 := blk_frozen BK236.out 0
                                        have hfz65_1 := blk_frozen BK236.out 1
                                        have hfz65_2 := blk_frozen BK236.out 2
                                        have hfz65_3 := blk_frozen BK236.out 3
                                        go_wp2
                                        repeat (go_quiet (fail); try go_wp2)
                                        go_loopg [15] k4 (fun kq v15 w' => ∃ (x15_5 : Int), v15 = .int .i64 x15_5 ∧ Aside0 (monticulelaw28_PlanSound.l4 kq l1 t207 x11_2 x12_2 x15_5 ((rd_T34 l1 (rd t207 x12_2)).f0) ((rd_T34 l1 (rd t207 x12_2)).f1) ((rd_T34 l1 (rd t207 x12_2)).f2) ((rd_T34 l1 (rd t207 x12_2)).f3) = some r) ∧ Aside0 (kq ≤ k4) ∧ Aside0 (Kd.R (Kd.int .i64) 3 w' w.heap.size (fun _ => True) (.slice (some ad234) t207.length co45) t207) ∧ Aside0 (Kd.R Kd.string 9 w' w.heap.size (fun _ => True) u11 x11_2) ∧ Aside0 (w'.heap[gb236]? = some (.cells #[.string ((rd_T34 l1 (rd t207 x12_2)).f0), .int .i64 ((rd_T34 l1 (rd t207 x12_2)).f1), (.slice A235_2 ((rd_T34 l1 (rd t207 x12_2)).f2).length c235_2), (.slice A235_3 ((rd_T34 l1 (rd t207 x12_2)).f3).length c235_3)] 34 (0, 0))) ∧ Aside0 (Below w.heap.size w w'))
                                        case atStart => exact ⟨(0), (by first | rfl | (simp; done) | (simp [*]; done)), H', ⟨Nat.le_refl _⟩, ⟨by (with_reducible repeat (first | apply Kd.R_alloc | apply Kd.R_drewN | apply Kd.R_drew)); exact HO_5.out⟩, ⟨by (with_reducible repeat (first | apply Kd.R_alloc | apply Kd.R_drewN | apply Kd.R_drew)); exact HO_11.out⟩, ⟨by (with_reducible repeat (first | refine blk_drewN ?_ _ | refine blk_drew ?_ | refine blk_alloc ?_ _)); exact BK236.out⟩, ⟨by repeat (first | (with_reducible first | exact HB.out | apply below_alloc | apply pw_below_drewN | apply below_drew1 | refine below_set ?_ GE236.out) | exact HB.out)⟩⟩
                                        case round =>
                                          clear H'
                                          try clear c1
                                          try clear c2
                                          try clear p2
                                          try clear q2
                                          try clear hx2
                                          try clear c3
                                          try clear q3
                                          try clear c4
                                          try clear c5
                                          try clear c6
                                          try clear p6
                                          try clear c7
                                          try clear c13
                                          try clear c17
                                          try clear c17b0
                                          try clear c17b1
                                          try clear c21
                                          try clear c21b0
                                          try clear c22
                                          try clear c22b0
                                          try clear p22
                                          try clear q22
                                          try clear hx22
                                          try clear c23
                                          try clear c23b0
                                          try clear p23
                                          try clear q23
                                          try clear hx23
                                          try clear c25
                                          try clear c26
                                          try clear c30
                                          try clear c30b0
                                          try clear c30b1
                                          try clear c32
                                          try clear c33
                                          try clear q33
                                          try clear c35
                                          try clear q35
                                          try clear c37
                                          try clear c37b0
                                          try clear c37b1
                                          try clear c38
                                          try clear c43
                                          try clear c43b0
                                          try clear c46
                                          try clear c46b0
                                          try clear c47
                                          try clear c47b0
                                          try clear c48
                                          try clear c48b0
                                          try clear c49
                                          try clear c49b0
                                          try clear c50
                                          try clear c51
                                          try clear c51b0
                                          try clear c52
                                          try clear c52b0
                                          try clear c53
                                          try clear c53b0
                                          try clear c54
                                          try clear c54b0
                                          try clear c57
                                          try clear c57b0
                                          try clear c58
                                          try clear c58b0
                                          try clear c60
                                          try clear p64
                                          try clear hcz56_0
                                          try clear hcz56_1
                                          try clear hcz56_2
                                          try clear hcz56_3
                                          try clear hcz61_0
                                          try clear hcz61_1
                                          try clear hcz61_2
                                          try clear hcz61_3
                                          try clear hcz63_0
                                          try clear hcz63_1
                                          try clear hcz63_2
                                          try clear hcz63_3
                                          try clear hcz65_0
                                          try clear hcz65_1
                                          try clear hcz65_2
                                          try clear hcz65_3
                                          try clear hfz56_0
                                          try clear hfz56_1
                                          try clear hfz56_2
                                          try clear hfz56_3
                                          try clear hfz61_0
                                          try clear hfz61_1
                                          try clear hfz61_2
                                          try clear hfz61_3
                                          try clear hfz63_0
                                          try clear hfz63_1
                                          try clear hfz63_2
                                          try clear hfz63_3
                                          try clear hfz65_0
                                          try clear hfz65_1
                                          try clear hfz65_2
                                          try clear hfz65_3
                                          try clear hx220_0
                                          try clear hx220_1
                                          try clear hx220_2
                                          try clear hx220_3
                                          try clear hx222_0
                                          try clear hx222_1
                                          try clear hx222_2
                                          try clear hx222_3
                                          try clear hx232_0
                                          try clear hx233_0
                                          try clear hx234_0
                                          try clear hx235_0
                                          try clear hx235_1
                                          try clear hx235_2
                                          try clear hx235_3
                                          try clear hx237_0
                                          try clear p2
                                          try clear p22
                                          try clear p220
                                          try clear p222
                                          try clear p23
                                          try clear p232
                                          try clear p233
                                          try clear p234
                                          try clear p235
                                          try clear p237
                                          try clear p6
                                          try clear q2
                                          try clear q22
                                          try clear q220
                                          try clear q222
                                          try clear q23
                                          try clear q232
                                          try clear q233
                                          try clear q234
                                          try clear q235
                                          try clear q237
                                          try clear q3
                                          try clear q33
                                          try clear q35
                                          obtain ⟨x15_5, rfl, HA, HK5, HO_5, HO_11, BK236, HB⟩ := hrel
                                          cases gk with
                                          | zero => exact absurd HA.out (by simp [monticulelaw28_PlanSound.l4])
                                          | succ k5 =>
                                            have H := HA.out
                                            clear HA
                                            simp only [monticulelaw28_PlanSound.l4] at H
                                            by_cases c66 : x15_5 < x12_2
                                            · rw [if_pos c66] at H
                                              have c66b0 : decide (x15_5 < x12_2) = true := decide_eq_true c66
                                              clear c66
                                              by_cases c67 : 0 ≤ x15_5
                                              · rw [if_pos c67] at H
                                                have c67b0 : decide (0 ≤ x15_5) = true := decide_eq_true c67
                                                clear c67
                                                by_cases c68 : x15_5 < (t207.length : Int)
                                                · rw [if_pos c68] at H
                                                  have c68b0 : decide (x15_5 < (t207.length : Int)) = true := decide_eq_true c68
                                                  clear c68
                                                  by_cases c69 : 0 ≤ x12_2
                                                  · rw [if_pos c69] at H
                                                    have c69b0 : decide (0 ≤ x12_2) = true := decide_eq_true c69
                                                    clear c69
                                                    by_cases c70 : x12_2 < (t207.length : Int)
                                                    · rw [if_pos c70] at H
                                                      have c70b0 : decide (x12_2 < (t207.length : Int)) = true := decide_eq_true c70
                                                      clear c70
                                                      by_cases c71 : (rd t207 x15_5) = (rd t207 x12_2)
                                                      · rw [if_pos c71] at H
                                                        have c71b0 : ((rd t207 x15_5) == (rd t207 x12_2)) = true := beq_iff_eq.mpr c71
                                                        have c71b1 : ((rd t207 x15_5) != (rd t207 x12_2)) = false := bne_eq_false_iff_eq.mpr c71
                                                        clear c71
                                                        obtain rfl := Option.some.inj H
                                                        have p239 : 0 ≤ (x15_5 : Int) := of_decide_eq_true (by first | (with_reducible assumption) | assumption)
                                                        have q239 : x15_5 < (t207.length : Int) := of_decide_eq_true (by first | (with_reducible assumption) | assumption)
                                                        obtain ⟨ad239, e239, hx239_0⟩ := Kd.at_int (Kd.R_reads' HO_5.out).2.2 x15_5 p239 q239
                                                        obtain rfl : ad234 = ad239 := (by injection e239)
                                                        replace p239 := eq_true p239
                                                        replace q239 := eq_true q239
                                                        have p240 : 0 ≤ (x12_2 : Int) := of_decide_eq_true (by first | (with_reducible assumption) | assumption)
                                                        have q240 : x12_2 < (t207.length : Int) := of_decide_eq_true (by first | (with_reducible assumption) | assumption)
                                                        obtain ⟨ad240, e240, hx240_0⟩ := Kd.at_int (Kd.R_reads' HO_5.out).2.2 x12_2 p240 q240
                                                        obtain rfl : ad234 = ad240 := (by injection e240)
                                                        replace p240 := eq_true p240
                                                        replace q240 := eq_true q240
                                                        go_wp2
                                                        repeat (go_quiet (fail); try go_wp2)
                                                        go_ret
                                                        exact ⟨by first | rfl | (simp [errW_none, errW_some] <;> rfl) | (simp [*, errW_none, errW_some] <;> rfl), by repeat (first | (with_reducible first | exact HB.out | apply below_alloc | apply pw_below_drewN | apply below_drew1 | refine below_set ?_ GE236.out) | exact HB.out)⟩
                                                      · rw [if_neg c71] at H
                                                        have c71b0 : ((rd t207 x15_5) == (rd t207 x12_2)) = false := beq_eq_false_iff_ne.mpr c71
                                                        have c71b1 : ((rd t207 x15_5) != (rd t207 x12_2)) = true := bne_iff_ne.mpr c71
                                                        have H' := Aside0.mk H
                                                        clear H
                                                        have p239 : 0 ≤ (x15_5 : Int) := of_decide_eq_true (by first | (with_reducible assumption) | assumption)
                                                        have q239 : x15_5 < (t207.length : Int) := of_decide_eq_true (by first | (with_reducible assumption) | assumption)
                                                        obtain ⟨ad239, e239, hx239_0⟩ := Kd.at_int (Kd.R_reads' HO_5.out).2.2 x15_5 p239 q239
                                                        obtain rfl : ad234 = ad239 := (by injection e239)
                                                        replace p239 := eq_true p239
                                                        replace q239 := eq_true q239
                                                        have p240 : 0 ≤ (x12_2 : Int) := of_decide_eq_true (by first | (with_reducible assumption) | assumption)
                                                        have q240 : x12_2 < (t207.length : Int) := of_decide_eq_true (by first | (with_reducible assumption) | assumption)
                                                        obtain ⟨ad240, e240, hx240_0⟩ := Kd.at_int (Kd.R_reads' HO_5.out).2.2 x12_2 p240 q240
                                                        obtain rfl : ad234 = ad240 := (by injection e240)
                                                        replace p240 := eq_true p240
                                                        replace q240 := eq_true q240
                                                        go_wp2
                                                        repeat (go_quiet (fail); try go_wp2)
                                                        go_roundg k5
                                                        case measure => have := HJ2.out; have := HK2.out; have := HJ43.out; have := HK4.out; have := HK5.out; omega
                                                        case rel => exact ⟨(wrap64 (x15_5 + 1)), (by first | rfl | (simp; done) | (simp [*]; done)), H', ⟨by have := HJ2.out; have := HK2.out; have := HJ43.out; have := HK4.out; have := HK5.out; omega⟩, ⟨by (with_reducible repeat (first | apply Kd.R_alloc | apply Kd.R_drewN | apply Kd.R_drew)); exact HO_5.out⟩, ⟨by (with_reducible repeat (first | apply Kd.R_alloc | apply Kd.R_drewN | apply Kd.R_drew)); exact HO_11.out⟩, ⟨by (with_reducible repeat (first | refine blk_drewN ?_ _ | refine blk_drew ?_ | refine blk_alloc ?_ _)); exact BK236.out⟩, ⟨by repeat (first | (with_reducible first | exact HB.out | apply below_alloc | apply pw_below_drewN | apply below_drew1 | refine below_set ?_ GE236.out) | exact HB.out)⟩⟩
                                                    · rw [if_neg c70] at H
                                                      exact absurd H (by simp)
                                                  · rw [if_neg c69] at H
                                                    exact absurd H (by simp)
                                                · rw [if_neg c68] at H
                                                  exact absurd H (by simp)
                                              · rw [if_neg c67] at H
                                                exact absurd H (by simp)
                                            · rw [if_neg c66] at H
                                              have c66b0 : decide (x15_5 < x12_2) = false := decide_eq_false c66
                                              clear c66
                                              by_cases c72 : x11_2.length < 8796093022208
                                              · rw [if_pos c72] at H
                                                have LMc72 := Aside0.mk c72
                                                clear c72
                                                obtain ⟨y241, hy241⟩ : ∃ y_ : List ByteArray, y_ = (x11_2 ++ [((rd_T34 l1 (rd t207 x12_2)).f0)]) := ⟨_, rfl⟩
                                                replace H : (monticulelaw28_PlanSound.l2 k5 l1 t207 y241 (wrap64 (x12_2 + 1))) = some r := by first | (rw [hy241]; with_reducible exact H) | (have H2_ := (Option.bind_some _ _).symm.trans H; rw [hy241]; with_reducible exact H2_) | (have H2_ := (Option.bind_some _ _).symm.trans H; with_reducible exact H2_) | with_reducible exact H | (rw [hy241]; exact H) | exact H
                                                have Ny241 := Aside0.mk hy241
                                                clear hy241
                                                have H' := Aside0.mk H
                                                clear H
                                                have hcz73_0 : wr.cell? ⟨gb236, 0, none⟩ = some (.string ((rd_T34 l1 (rd t207 x12_2)).f0)) := (blk_cell BK236.out 0).trans rfl
                                                have hcz73_1 : wr.cell? ⟨gb236, 1, none⟩ = some (.int .i64 ((rd_T34 l1 (rd t207 x12_2)).f1)) := (blk_cell BK236.out 1).trans rfl
                                                have hcz73_2 : wr.cell? ⟨gb236, 2, none⟩ = some (.slice A235_2 ((rd_T34 l1 (rd t207 x12_2)).f2).length c235_2) := (blk_cell BK236.out 2).trans rfl
                                                have hcz73_3 : wr.cell? ⟨gb236, 3, none⟩ = some (.slice A235_3 ((rd_T34 l1 (rd t207 x12_2)).f3).length c235_3) := (blk_cell BK236.out 3).trans rfl
                                                have hfz73_0 := blk_frozen BK236.out 0
                                                have hfz73_1 := blk_frozen BK236.out 1
                                                have hfz73_2 := blk_frozen BK236.out 2
                                                have hfz73_3 := blk_frozen BK236.out 3
                                                go_wp2_with (first | ((with_reducible refine gate_builtin (b := .append) (xs := #[.tmp 148, .tmp 151]) rfl ?_); (try (refine gate_guard (by rfl) ?_; dsimp only)); at_builtin; refine Kd.R_append Kd.string (w0 := w) w.heap.size rfl (.tmp 148) (.tmp 151) 22 9 (.string ⟨#[]⟩) 16 rfl Tryd.underlying22 info9 rfl (by decide) (by omega) u11 x11_2 ((rd_T34 l1 (rd t207 x12_2)).f0) [.string ((rd_T34 l1 (rd t207 x12_2)).f0)] (fun _ => True) (fun _ => False) rfl rfl ?aP (fun _ hk => hk.elim) ?aF ?aO ?aB ?aS ?aL ?_; (case aP => exact rfl); (case aB => exact (by repeat (first | (with_reducible first | exact HB.out | apply below_alloc | apply pw_below_drewN | apply below_drew1 | refine below_set ?_ GE236.out) | exact HB.out))); (case aF => exact (fun _ _ => trivial)); (case aO => exact (by (with_reducible repeat (first | apply Kd.R_alloc | apply Kd.R_drewN | apply Kd.R_drew)); exact HO_11.out)); (case aS => exact (below_size (by repeat (first | (with_reducible first | exact HB.out | apply below_alloc | apply pw_below_drewN | apply below_drew1 | refine below_set ?_ GE236.out) | exact HB.out)))); (case aL => have := LMc72.out; omega); intro v242 w74 ho hb hg hat; rw [← Ny241.out] at ho; have n0_ := Aside0.mk (Kd.R_over' (by (with_reducible repeat (first | apply Kd.R_alloc | apply Kd.R_drewN | apply Kd.R_drew)); exact HO_5.out) (Kd.R_typed (by (with_reducible repeat (first | apply Kd.R_alloc | apply Kd.R_drewN | apply Kd.R_drew)); exact HO_11.out)) (by decide) hg); have n1_ := Aside0.mk (blk_grown (g := gb236) (o := .cells #[.string ((rd_T34 l1 (rd t207 x12_2)).f0), .int .i64 ((rd_T34 l1 (rd t207 x12_2)).f1), .slice A235_2 ((rd_T34 l1 (rd t207 x12_2)).f2).length c235_2, .slice A235_3 ((rd_T34 l1 (rd t207 x12_2)).f3).length c235_3] 34 (0, 0)) (by (with_reducible repeat (first | refine blk_drewN ?_ _ | refine blk_drew ?_ | refine blk_alloc ?_ _)); exact BK236.out) hg (Kd.R_ne HO_11.out BK236.out (by decide))); have n2_ := Aside0.mk (hb); have n3_ := Aside0.mk (ho); clear HO_5; clear BK236; clear HB; clear HO_11; have HO_5 := n0_; have BK236 := n1_; have HB := n2_; have HO243 := n3_; clear n0_ n1_ n2_ n3_; clear ho hb hg hat))
                                                repeat (go_quiet (first | ((with_reducible refine gate_builtin (b := .append) (xs := #[.tmp 148, .tmp 151]) rfl ?_); (try (refine gate_guard (by rfl) ?_; dsimp only)); at_builtin; refine Kd.R_append Kd.string (w0 := w) w.heap.size rfl (.tmp 148) (.tmp 151) 22 9 (.string ⟨#[]⟩) 16 rfl Tryd.underlying22 info9 rfl (by decide) (by omega) u11 x11_2 ((rd_T34 l1 (rd t207 x12_2)).f0) [.string ((rd_T34 l1 (rd t207 x12_2)).f0)] (fun _ => True) (fun _ => False) rfl rfl ?aP (fun _ hk => hk.elim) ?aF ?aO ?aB ?aS ?aL ?_; (case aP => exact rfl); (case aB => exact (by repeat (first | (with_reducible first | exact HB.out | apply below_alloc | apply pw_below_drewN | apply below_drew1 | refine below_set ?_ GE236.out) | exact HB.out))); (case aF => exact (fun _ _ => trivial)); (case aO => exact (by (with_reducible repeat (first | apply Kd.R_alloc | apply Kd.R_drewN | apply Kd.R_drew)); exact HO_11.out)); (case aS => exact (below_size (by repeat (first | (with_reducible first | exact HB.out | apply below_alloc | apply pw_below_drewN | apply below_drew1 | refine below_set ?_ GE236.out) | exact HB.out)))); (case aL => have := LMc72.out; omega); intro v242 w74 ho hb hg hat; rw [← Ny241.out] at ho; have n0_ := Aside0.mk (Kd.R_over' (by (with_reducible repeat (first | apply Kd.R_alloc | apply Kd.R_drewN | apply Kd.R_drew)); exact HO_5.out) (Kd.R_typed (by (with_reducible repeat (first | apply Kd.R_alloc | apply Kd.R_drewN | apply Kd.R_drew)); exact HO_11.out)) (by decide) hg); have n1_ := Aside0.mk (blk_grown (g := gb236) (o := .cells #[.string ((rd_T34 l1 (rd t207 x12_2)).f0), .int .i64 ((rd_T34 l1 (rd t207 x12_2)).f1), .slice A235_2 ((rd_T34 l1 (rd t207 x12_2)).f2).length c235_2, .slice A235_3 ((rd_T34 l1 (rd t207 x12_2)).f3).length c235_3] 34 (0, 0)) (by (with_reducible repeat (first | refine blk_drewN ?_ _ | refine blk_drew ?_ | refine blk_alloc ?_ _)); exact BK236.out) hg (Kd.R_ne HO_11.out BK236.out (by decide))); have n2_ := Aside0.mk (hb); have n3_ := Aside0.mk (ho); clear HO_5; clear BK236; clear HB; clear HO_11; have HO_5 := n0_; have BK236 := n1_; have HB := n2_; have HO243 := n3_; clear n0_ n1_ n2_ n3_; clear ho hb hg hat)); try go_wp2_with (first | ((with_reducible refine gate_builtin (b := .append) (xs := #[.tmp 148, .tmp 151]) rfl ?_); (try (refine gate_guard (by rfl) ?_; dsimp only)); at_builtin; refine Kd.R_append Kd.string (w0 := w) w.heap.size rfl (.tmp 148) (.tmp 151) 22 9 (.string ⟨#[]⟩) 16 rfl Tryd.underlying22 info9 rfl (by decide) (by omega) u11 x11_2 ((rd_T34 l1 (rd t207 x12_2)).f0) [.string ((rd_T34 l1 (rd t207 x12_2)).f0)] (fun _ => True) (fun _ => False) rfl rfl ?aP (fun _ hk => hk.elim) ?aF ?aO ?aB ?aS ?aL ?_; (case aP => exact rfl); (case aB => exact (by repeat (first | (with_reducible first | exact HB.out | apply below_alloc | apply pw_below_drewN | apply below_drew1 | refine below_set ?_ GE236.out) | exact HB.out))); (case aF => exact (fun _ _ => trivial)); (case aO => exact (by (with_reducible repeat (first | apply Kd.R_alloc | apply Kd.R_drewN | apply Kd.R_drew)); exact HO_11.out)); (case aS => exact (below_size (by repeat (first | (with_reducible first | exact HB.out | apply below_alloc | apply pw_below_drewN | apply below_drew1 | refine below_set ?_ GE236.out) | exact HB.out)))); (case aL => have := LMc72.out; omega); intro v242 w74 ho hb hg hat; rw [← Ny241.out] at ho; have n0_ := Aside0.mk (Kd.R_over' (by (with_reducible repeat (first | apply Kd.R_alloc | apply Kd.R_drewN | apply Kd.R_drew)); exact HO_5.out) (Kd.R_typed (by (with_reducible repeat (first | apply Kd.R_alloc | apply Kd.R_drewN | apply Kd.R_drew)); exact HO_11.out)) (by decide) hg); have n1_ := Aside0.mk (blk_grown (g := gb236) (o := .cells #[.string ((rd_T34 l1 (rd t207 x12_2)).f0), .int .i64 ((rd_T34 l1 (rd t207 x12_2)).f1), .slice A235_2 ((rd_T34 l1 (rd t207 x12_2)).f2).length c235_2, .slice A235_3 ((rd_T34 l1 (rd t207 x12_2)).f3).length c235_3] 34 (0, 0)) (by (with_reducible repeat (first | refine blk_drewN ?_ _ | refine blk_drew ?_ | refine blk_alloc ?_ _)); exact BK236.out) hg (Kd.R_ne HO_11.out BK236.out (by decide))); have n2_ := Aside0.mk (hb); have n3_ := Aside0.mk (ho); clear HO_5; clear BK236; clear HB; clear HO_11; have HO_5 := n0_; have BK236 := n1_; have HB := n2_; have HO243 := n3_; clear n0_ n1_ n2_ n3_; clear ho hb hg hat)))
                                                go_roundg k5
                                                case measure => have := HJ2.out; have := HK2.out; have := HJ43.out; have := HK4.out; have := HK5.out; omega
                                                case rel => exact ⟨(y241), (wrap64 (x12_2 + 1)), (by first | rfl | (simp; done) | (simp [*]; done)), H', ⟨by have := HJ2.out; have := HK2.out; have := HJ43.out; have := HK4.out; have := HK5.out; omega⟩, ⟨by (with_reducible repeat (first | apply Kd.R_alloc | apply Kd.R_drewN | apply Kd.R_drew)); exact HO_5.out⟩, ⟨by (with_reducible repeat (first | apply Kd.R_alloc | apply Kd.R_drewN | apply Kd.R_drew)); exact HO243.out⟩, ⟨by repeat (first | (with_reducible first | exact HB.out | apply below_alloc | apply pw_below_drewN | apply below_drew1 | refine below_set ?_ GE236.out) | exact HB.out)⟩⟩
                                              · rw [if_neg c72] at H
                                                exact absurd H (by simp)
                                · rw [if_neg c54] at H
                                  exact absurd H (by simp)
                              · rw [if_neg c53] at H
                                exact absurd H (by simp)
                            · rw [if_neg c52] at H
                              exact absurd H (by simp)
                          · rw [if_neg c51] at H
                            exact absurd H (by simp)
                  · rw [if_neg c43] at H
                    have c43b0 : decide (x12_2 < (t207.length : Int)) = false := decide_eq_false c43
                    clear c43
                    obtain rfl := Option.some.inj H
                    obtain ⟨Ao75, co75, eo75⟩ := Kd.R_slice HO_5.out
                    subst eo75
                    go_wp2
                    repeat (go_quiet (fail); try go_wp2)
                    go_ret
                    exact ⟨by first | rfl | (simp [errW_none, errW_some] <;> rfl) | (simp [*, errW_none, errW_some] <;> rfl), by repeat (first | (with_reducible first | exact HB.out | apply below_alloc | apply pw_below_drewN | apply below_drew1) | exact HB.out)⟩
            · rw [if_neg c38] at H
              exact absurd H (by simp)
          · rw [if_neg c37] at H
            have c37b0 : (t208 == 0) = false := beq_eq_false_iff_ne.mpr c37
            have c37b1 : (t208 != 0) = true := bne_iff_ne.mpr c37
            obtain rfl := Option.some.inj H
            go_wp2_with (first | (go_at_call 10; (with_reducible refine (plan_Order.calls kj2 _ _ l0 _ _ l1 t207 t208 t209 _ ?side1 ?side2 ?side3 ?side4 A16.out).mono ?_); (case side1 => repeat (first | exact (Kd.C_below HR0.out HB.out) | (with_reducible refine Kd.C_alloc ?_ _) | (with_reducible refine Kd.C_drewN ?_ _) | (with_reducible refine Kd.C_drew ?_))); (case side2 => exact HC0.out); (case side3 => repeat (first | exact (Kd.C_below HR1.out HB.out) | (with_reducible refine Kd.C_alloc ?_ _) | (with_reducible refine Kd.C_drewN ?_ _) | (with_reducible refine Kd.C_drew ?_))); (case side4 => exact HC1.out); rintro e w76 ⟨v210, rfl, ho0, hb⟩; have n0_ := Aside0.mk (Kd.R_lower ho0 (below_size (by repeat (first | (with_reducible first | exact HB.out | apply below_alloc | apply pw_below_drewN | apply below_drew1) | exact HB.out)))); have n1_ := Aside0.mk (below_step (by repeat (first | (with_reducible first | exact HB.out | apply below_alloc | apply pw_below_drewN | apply below_drew1) | exact HB.out)) hb); clear HB; have HO211 := n0_; have HB := n1_; clear n0_ n1_; (try clear hb); (try clear hb2); (try clear hk); (try clear hi); (try clear ho0); obtain ⟨Ao77, co77, eo77⟩ := Kd.R_slice HO211.out; subst eo77))
            repeat (go_quiet (first | (go_at_call 10; (with_reducible refine (plan_Order.calls kj2 _ _ l0 _ _ l1 t207 t208 t209 _ ?side1 ?side2 ?side3 ?side4 A16.out).mono ?_); (case side1 => repeat (first | exact (Kd.C_below HR0.out HB.out) | (with_reducible refine Kd.C_alloc ?_ _) | (with_reducible refine Kd.C_drewN ?_ _) | (with_reducible refine Kd.C_drew ?_))); (case side2 => exact HC0.out); (case side3 => repeat (first | exact (Kd.C_below HR1.out HB.out) | (with_reducible refine Kd.C_alloc ?_ _) | (with_reducible refine Kd.C_drewN ?_ _) | (with_reducible refine Kd.C_drew ?_))); (case side4 => exact HC1.out); rintro e w76 ⟨v210, rfl, ho0, hb⟩; have n0_ := Aside0.mk (Kd.R_lower ho0 (below_size (by repeat (first | (with_reducible first | exact HB.out | apply below_alloc | apply pw_below_drewN | apply below_drew1) | exact HB.out)))); have n1_ := Aside0.mk (below_step (by repeat (first | (with_reducible first | exact HB.out | apply below_alloc | apply pw_below_drewN | apply below_drew1) | exact HB.out)) hb); clear HB; have HO211 := n0_; have HB := n1_; clear n0_ n1_; (try clear hb); (try clear hb2); (try clear hk); (try clear hi); (try clear ho0); obtain ⟨Ao77, co77, eo77⟩ := Kd.R_slice HO211.out; subst eo77)); try go_wp2_with (first | (go_at_call 10; (with_reducible refine (plan_Order.calls kj2 _ _ l0 _ _ l1 t207 t208 t209 _ ?side1 ?side2 ?side3 ?side4 A16.out).mono ?_); (case side1 => repeat (first | exact (Kd.C_below HR0.out HB.out) | (with_reducible refine Kd.C_alloc ?_ _) | (with_reducible refine Kd.C_drewN ?_ _) | (with_reducible refine Kd.C_drew ?_))); (case side2 => exact HC0.out); (case side3 => repeat (first | exact (Kd.C_below HR1.out HB.out) | (with_reducible refine Kd.C_alloc ?_ _) | (with_reducible refine Kd.C_drewN ?_ _) | (with_reducible refine Kd.C_drew ?_))); (case side4 => exact HC1.out); rintro e w76 ⟨v210, rfl, ho0, hb⟩; have n0_ := Aside0.mk (Kd.R_lower ho0 (below_size (by repeat (first | (with_reducible first | exact HB.out | apply below_alloc | apply pw_below_drewN | apply below_drew1) | exact HB.out)))); have n1_ := Aside0.mk (below_step (by repeat (first | (with_reducible first | exact HB.out | apply below_alloc | apply pw_below_drewN | apply below_drew1) | exact HB.out)) hb); clear HB; have HO211 := n0_; have HB := n1_; clear n0_ n1_; (try clear hb); (try clear hb2); (try clear hk); (try clear hi); (try clear ho0); obtain ⟨Ao77, co77, eo77⟩ := Kd.R_slice HO211.out; subst eo77)))
            go_ret
            exact ⟨by first | rfl | (simp [errW_none, errW_some] <;> rfl) | (simp [*, errW_none, errW_some] <;> rfl), by repeat (first | (with_reducible first | exact HB.out | apply below_alloc | apply pw_below_drewN | apply below_drew1) | exact HB.out)⟩

end Go.Proofs.YtllgcnckaodjkaaDoor.Q
