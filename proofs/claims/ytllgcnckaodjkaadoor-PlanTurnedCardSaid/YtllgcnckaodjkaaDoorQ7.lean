-- Printed for this claim by a program of the session's own over the kit's printer; Lean checks it.
import Derived.Test.YtllgcnckaodjkaaDoorQ0
import Derived.Test.YtllgcnckaodjkaaDoorQ3
import Derived.Test.YtllgcnckaodjkaaDoorQ5
import Derived.Test.YtllgcnckaodjkaaDoorMOrd
namespace Go.Proofs.YtllgcnckaodjkaaDoor.Q
open Go.RowKit Go.Proofs.YtllgcnckaodjkaaDoorW.PrintWords Go.Proofs.YtllgcnckaodjkaaDoorW.PrintLast Go.Proofs.YtllgcnckaodjkaaDoorW.PrintMore
attribute [local go_sem] max2_int min2_int max_two min_two max_three min_three max_four min_four   -- for this text's walks alone
set_option linter.unusedVariables false
set_option linter.unusedSimpArgs false

/-! ### monticulelaw28_PlanTurned: function 4 -/
mutual
def monticulelaw28_PlanTurned.j0 : Nat → List ByteArray → List (S34) → Int → Bool → Option (Bool)
  | 0, _, _, _, _ => none
  | k + 1, x0, x1, x2, x27 => if x27 = true then ((monticulelaw28_awake.f k).bind fun t247 => (some t247)) else (monticulelaw28_PlanTurned.l0 k x0 x1 x2 ([] : List (S34)) 0)
def monticulelaw28_PlanTurned.l0 : Nat → List ByteArray → List (S34) → Int → List (S34) → Int → Option (Bool)
  | 0, _, _, _, _, _ => none
  | k + 1, x0, x1, x2, x7, x8 => if x8 < (x1.length : Int) then ((monticuleref01_Rest.f x2 (x1.length : Int)).bind fun t248 => (if (x1.length : Int) = 0 then (none) else (if 0 ≤ (Int.tmod (wrap64 (x8 + t248)) (x1.length : Int)) then (if (Int.tmod (wrap64 (x8 + t248)) (x1.length : Int)) < (x1.length : Int) then (if x7.length < 1954687338268 then (monticulelaw28_PlanTurned.l0 k x0 x1 x2 (x7 ++ [(⟨(rd_T34 x1 (Int.tmod (wrap64 (x8 + t248)) (x1.length : Int))).f0, (rd_T34 x1 (Int.tmod (wrap64 (x8 + t248)) (x1.length : Int))).f1, (rd_T34 x1 (Int.tmod (wrap64 (x8 + t248)) (x1.length : Int))).f2, (rd_T34 x1 (Int.tmod (wrap64 (x8 + t248)) (x1.length : Int))).f3⟩ : S34)]) (wrap64 (x8 + 1))) else (none)) else (none)) else (none)))) else ((plan_Order.f k x0 x1).bind fun bt253 => ((plan_Order.f k x0 x7).bind fun bt258 => (if ((bt253.2.1 == 0) != (bt258.2.1 == 0)) = true then (monticulelaw28_PlanTurned.j2 k x1 x7 bt253.1 bt258.1 true) else (monticulelaw28_PlanTurned.j2 k x1 x7 bt253.1 bt258.1 ((bt253.1.length : Int) != (bt258.1.length : Int))))))
def monticulelaw28_PlanTurned.j2 : Nat → List (S34) → List (S34) → List Int → List Int → Bool → Option (Bool)
  | 0, _, _, _, _, _ => none
  | k + 1, x1, x7, x9, x12, x75 => if x75 = true then (some false) else (monticulelaw28_PlanTurned.l1 k x1 x7 x9 x12 0)
def monticulelaw28_PlanTurned.l1 : Nat → List (S34) → List (S34) → List Int → List Int → Int → Option (Bool)
  | 0, _, _, _, _, _ => none
  | k + 1, x1, x7, x9, x12, x15 => if x15 < (x9.length : Int) then (if 0 ≤ x15 then (if 0 ≤ (rd x9 x15) then (if (rd x9 x15) < (x1.length : Int) then (if x15 < (x12.length : Int) then (if 0 ≤ (rd x12 x15) then (if (rd x12 x15) < (x7.length : Int) then (if ((rd_T34 x1 (rd x9 x15)).f0).toList = ((rd_T34 x7 (rd x12 x15)).f0).toList then (monticulelaw28_PlanTurned.l1 k x1 x7 x9 x12 (wrap64 (x15 + 1))) else (some false)) else (none)) else (none)) else (none)) else (none)) else (none)) else (none)) else (some true)
end
def monticulelaw28_PlanTurned.f (k : Nat) (l0 : List ByteArray) (l1 : List (S34)) (a2 : Int) : Option (Bool) := (monticulelaw28_awake.f k).bind fun t244 => (if t244 = true then ((monticulelaw28_few.f k l0).bind fun t245 => (if t245 = true then ((monticuleref28_Few.f k l1 8).bind fun t246 => (monticulelaw28_PlanTurned.j0 k l0 l1 a2 (!t246))) else (monticulelaw28_PlanTurned.j0 k l0 l1 a2 true))) else (monticulelaw28_PlanTurned.j0 k l0 l1 a2 true))
theorem monticulelaw28_PlanTurned.mono_l : ∀ k, (∀ y0 y1 y2 y3, LeO (monticulelaw28_PlanTurned.j0 k y0 y1 y2 y3) (monticulelaw28_PlanTurned.j0 (k + 1) y0 y1 y2 y3)) ∧ (∀ y0 y1 y2 y3 y4, LeO (monticulelaw28_PlanTurned.l0 k y0 y1 y2 y3 y4) (monticulelaw28_PlanTurned.l0 (k + 1) y0 y1 y2 y3 y4)) ∧ (∀ y0 y1 y2 y3 y4, LeO (monticulelaw28_PlanTurned.j2 k y0 y1 y2 y3 y4) (monticulelaw28_PlanTurned.j2 (k + 1) y0 y1 y2 y3 y4)) ∧ (∀ y0 y1 y2 y3 y4, LeO (monticulelaw28_PlanTurned.l1 k y0 y1 y2 y3 y4) (monticulelaw28_PlanTurned.l1 (k + 1) y0 y1 y2 y3 y4))
  | 0 => ⟨fun _ _ _ _ r h => by simp [monticulelaw28_PlanTurned.j0] at h, fun _ _ _ _ _ r h => by simp [monticulelaw28_PlanTurned.l0] at h, fun _ _ _ _ _ r h => by simp [monticulelaw28_PlanTurned.j2] at h, fun _ _ _ _ _ r h => by simp [monticulelaw28_PlanTurned.l1] at h⟩
  | k + 1 => by
    obtain ⟨ih0, ih1, ih2, ih3⟩ := monticulelaw28_PlanTurned.mono_l k
    refine ⟨?_, ?_, ?_, ?_⟩
    · intro y0 y1 y2 y3
      unfold monticulelaw28_PlanTurned.j0
      repeat' first
      | (with_reducible exact ih0 _ _ _ _)
      | (with_reducible exact ih1 _ _ _ _ _)
      | (with_reducible exact ih2 _ _ _ _ _)
      | (with_reducible exact ih3 _ _ _ _ _)
      | (with_reducible exact monticulelaw28_awake.mono _)
      | (with_reducible exact monticulelaw28_few.mono _ _)
      | (with_reducible exact monticuleref28_Few.mono _ _ _)
      | (with_reducible exact plan_Order.mono _ _ _)
      | (with_reducible exact LeO.refl _)
      | (with_reducible exact LeO.none _)
      | (with_reducible refine LeO.ite ?_ ?_)
      | (with_reducible refine LeO.bind ?_ (fun _ => ?_))
      | exact ih0 _ _ _ _
      | exact ih1 _ _ _ _ _
      | exact ih2 _ _ _ _ _
      | exact ih3 _ _ _ _ _
      | exact monticulelaw28_awake.mono _
      | exact monticulelaw28_few.mono _ _
      | exact monticuleref28_Few.mono _ _ _
      | exact plan_Order.mono _ _ _
      | exact LeO.none _
      | refine LeO.ite ?_ ?_
      | refine LeO.bind ?_ (fun _ => ?_)
    · intro y0 y1 y2 y3 y4
      unfold monticulelaw28_PlanTurned.l0
      repeat' first
      | (with_reducible exact ih0 _ _ _ _)
      | (with_reducible exact ih1 _ _ _ _ _)
      | (with_reducible exact ih2 _ _ _ _ _)
      | (with_reducible exact ih3 _ _ _ _ _)
      | (with_reducible exact monticulelaw28_awake.mono _)
      | (with_reducible exact monticulelaw28_few.mono _ _)
      | (with_reducible exact monticuleref28_Few.mono _ _ _)
      | (with_reducible exact plan_Order.mono _ _ _)
      | (with_reducible exact LeO.refl _)
      | (with_reducible exact LeO.none _)
      | (with_reducible refine LeO.ite ?_ ?_)
      | (with_reducible refine LeO.bind ?_ (fun _ => ?_))
      | exact ih0 _ _ _ _
      | exact ih1 _ _ _ _ _
      | exact ih2 _ _ _ _ _
      | exact ih3 _ _ _ _ _
      | exact monticulelaw28_awake.mono _
      | exact monticulelaw28_few.mono _ _
      | exact monticuleref28_Few.mono _ _ _
      | exact plan_Order.mono _ _ _
      | exact LeO.none _
      | refine LeO.ite ?_ ?_
      | refine LeO.bind ?_ (fun _ => ?_)
    · intro y0 y1 y2 y3 y4
      unfold monticulelaw28_PlanTurned.j2
      repeat' first
      | (with_reducible exact ih0 _ _ _ _)
      | (with_reducible exact ih1 _ _ _ _ _)
      | (with_reducible exact ih2 _ _ _ _ _)
      | (with_reducible exact ih3 _ _ _ _ _)
      | (with_reducible exact monticulelaw28_awake.mono _)
      | (with_reducible exact monticulelaw28_few.mono _ _)
      | (with_reducible exact monticuleref28_Few.mono _ _ _)
      | (with_reducible exact plan_Order.mono _ _ _)
      | (with_reducible exact LeO.refl _)
      | (with_reducible exact LeO.none _)
      | (with_reducible refine LeO.ite ?_ ?_)
      | (with_reducible refine LeO.bind ?_ (fun _ => ?_))
      | exact ih0 _ _ _ _
      | exact ih1 _ _ _ _ _
      | exact ih2 _ _ _ _ _
      | exact ih3 _ _ _ _ _
      | exact monticulelaw28_awake.mono _
      | exact monticulelaw28_few.mono _ _
      | exact monticuleref28_Few.mono _ _ _
      | exact plan_Order.mono _ _ _
      | exact LeO.none _
      | refine LeO.ite ?_ ?_
      | refine LeO.bind ?_ (fun _ => ?_)
    · intro y0 y1 y2 y3 y4
      unfold monticulelaw28_PlanTurned.l1
      repeat' first
      | (with_reducible exact ih0 _ _ _ _)
      | (with_reducible exact ih1 _ _ _ _ _)
      | (with_reducible exact ih2 _ _ _ _ _)
      | (with_reducible exact ih3 _ _ _ _ _)
      | (with_reducible exact monticulelaw28_awake.mono _)
      | (with_reducible exact monticulelaw28_few.mono _ _)
      | (with_reducible exact monticuleref28_Few.mono _ _ _)
      | (with_reducible exact plan_Order.mono _ _ _)
      | (with_reducible exact LeO.refl _)
      | (with_reducible exact LeO.none _)
      | (with_reducible refine LeO.ite ?_ ?_)
      | (with_reducible refine LeO.bind ?_ (fun _ => ?_))
      | exact ih0 _ _ _ _
      | exact ih1 _ _ _ _ _
      | exact ih2 _ _ _ _ _
      | exact ih3 _ _ _ _ _
      | exact monticulelaw28_awake.mono _
      | exact monticulelaw28_few.mono _ _
      | exact monticuleref28_Few.mono _ _ _
      | exact plan_Order.mono _ _ _
      | exact LeO.none _
      | refine LeO.ite ?_ ?_
      | refine LeO.bind ?_ (fun _ => ?_)
theorem monticulelaw28_PlanTurned.mono : ∀ a0 a1 a2 k, LeO (monticulelaw28_PlanTurned.f k a0 a1 a2) (monticulelaw28_PlanTurned.f (k + 1) a0 a1 a2) := by
  intro a0 a1 a2 k
  obtain ⟨ih0, ih1, ih2, ih3⟩ := monticulelaw28_PlanTurned.mono_l k
  unfold monticulelaw28_PlanTurned.f
  repeat' first
      | (with_reducible exact ih0 _ _ _ _)
      | (with_reducible exact ih1 _ _ _ _ _)
      | (with_reducible exact ih2 _ _ _ _ _)
      | (with_reducible exact ih3 _ _ _ _ _)
      | (with_reducible exact monticulelaw28_awake.mono _)
      | (with_reducible exact monticulelaw28_few.mono _ _)
      | (with_reducible exact monticuleref28_Few.mono _ _ _)
      | (with_reducible exact plan_Order.mono _ _ _)
      | (with_reducible exact LeO.refl _)
      | (with_reducible exact LeO.none _)
      | (with_reducible refine LeO.ite ?_ ?_)
      | (with_reducible refine LeO.bind ?_ (fun _ => ?_))
      | exact ih0 _ _ _ _
      | exact ih1 _ _ _ _ _
      | exact ih2 _ _ _ _ _
      | exact ih3 _ _ _ _ _
      | exact monticulelaw28_awake.mono _
      | exact monticulelaw28_few.mono _ _
      | exact monticuleref28_Few.mono _ _ _
      | exact plan_Order.mono _ _ _
      | exact LeO.none _
      | refine LeO.ite ?_ ?_
      | refine LeO.bind ?_ (fun _ => ?_)
set_option maxHeartbeats 8000000 in
set_option maxRecDepth 100000 in
theorem monticulelaw28_PlanTurned.calls (k : Nat) (A0 : Option Addr) (c0 : Nat) (l0 : List ByteArray) (P1_ : Nat → Prop) (A1 : Option Addr) (c1 : Nat) (l1 : List (S34)) (a2 : Int) (r : Bool) (w : World) (hr0 : Kd.C Kd.string w A0 l0.length l0) (hc0 : l0.length ≤ c0) (hs1 : Kd.V k34 34 w w.heap.size (fun k_ => P1_ k_) (.slice A1 l1.length c1) l1) (h : monticulelaw28_PlanTurned.f k l0 l1 a2 = some r) :
    Calls Tryd.prog 4 #[.slice A0 l0.length c0, .slice A1 l1.length c1, .int .i64 a2] w fun e w' => e = .returned (.bool r) ∧ Below w.heap.size w w' := by
  have hu34 := Tryd.underlying34
  have HR0 := Aside0.mk hr0
  have HC0 := Aside0.mk hc0
  clear hr0 hc0
  have HO1 := Aside0.mk (show Kd.V k34 34 w w.heap.size (fun k_ => (P1_ k_ ∨ w.heap.size ≤ k_)) (.slice A1 l1.length c1) l1 from Kd.V_mono hs1 (fun k_ hk => .inl hk))
  have HB := Aside0.mk (Below.refl w.heap.size w)
  have H : ((monticulelaw28_awake.f k).bind fun t244 => (if t244 = true then ((monticulelaw28_few.f k l0).bind fun t245 => (if t245 = true then ((monticuleref28_Few.f k l1 8).bind fun t246 => (monticulelaw28_PlanTurned.j0 k l0 l1 a2 (!t246))) else (monticulelaw28_PlanTurned.j0 k l0 l1 a2 true))) else (monticulelaw28_PlanTurned.j0 k l0 l1 a2 true))) = some r := h
  clear h
  have HC4 := Aside0.mk H
  clear H
  go_enter Tryd.func4, Tryd.ntmps4
  go_upto_region 1 with (fail)
  repeat (go_quiet (fail); go_upto_region 1 with (fail))
  go_cut [27] (fun v27 wc => ∃ (kq : Nat) (x27_3 : Bool), v27 = .bool x27_3 ∧ Aside0 (monticulelaw28_PlanTurned.j0 kq l0 l1 a2 x27_3 = some r) ∧ Aside0 (kq ≤ k) ∧ Aside0 (Kd.V k34 34 wc w.heap.size (fun k_ => (P1_ k_ ∨ w.heap.size ≤ k_)) (.slice A1 l1.length c1) l1) ∧ Aside0 (Below w.heap.size w wc))
  case first =>
    have H := HC4.out
    clear HC4
    replace H := Option.bind_eq_some_iff.mp H
    obtain ⟨t244, A50, H⟩ := H
    replace H : (if t244 = true then ((monticulelaw28_few.f k l0).bind fun t245 => (if t245 = true then ((monticuleref28_Few.f k l1 8).bind fun t246 => (monticulelaw28_PlanTurned.j0 k l0 l1 a2 (!t246))) else (monticulelaw28_PlanTurned.j0 k l0 l1 a2 true))) else (monticulelaw28_PlanTurned.j0 k l0 l1 a2 true)) = some r := H
    have A5 := Aside0.mk A50
    clear A50
    by_cases c6 : t244 = true
    · subst c6
      have H1 : ((monticulelaw28_few.f k l0).bind fun t245 => (if t245 = true then ((monticuleref28_Few.f k l1 8).bind fun t246 => (monticulelaw28_PlanTurned.j0 k l0 l1 a2 (!t246))) else (monticulelaw28_PlanTurned.j0 k l0 l1 a2 true))) = some r := by rw [if_pos rfl] at H; exact H
      clear H
      have H := H1
      clear H1
      replace H := Option.bind_eq_some_iff.mp H
      obtain ⟨t245, A70, H⟩ := H
      replace H : (if t245 = true then ((monticuleref28_Few.f k l1 8).bind fun t246 => (monticulelaw28_PlanTurned.j0 k l0 l1 a2 (!t246))) else (monticulelaw28_PlanTurned.j0 k l0 l1 a2 true)) = some r := H
      have A7 := Aside0.mk A70
      clear A70
      by_cases c8 : t245 = true
      · subst c8
        have H1 : ((monticuleref28_Few.f k l1 8).bind fun t246 => (monticulelaw28_PlanTurned.j0 k l0 l1 a2 (!t246))) = some r := by rw [if_pos rfl] at H; exact H
        clear H
        have H := H1
        clear H1
        replace H := Option.bind_eq_some_iff.mp H
        obtain ⟨t246, A90, H⟩ := H
        replace H : (monticulelaw28_PlanTurned.j0 k l0 l1 a2 (!t246)) = some r := H
        have A9 := Aside0.mk A90
        clear A90
        have H' := Aside0.mk H
        clear H
        go_wp2_with (first | (go_at_call 7; (with_reducible refine (monticulelaw28_awake.calls k  true _ A5.out).mono ?_); rintro e w10 ⟨rfl, hb⟩; have n0_ := Aside0.mk (Kd.V_below (by (with_reducible repeat (first | apply Kd.V_alloc | apply Kd.V_drewN | apply Kd.V_drew)); exact HO1.out) hb); have n1_ := Aside0.mk (below_step (by repeat (first | (with_reducible first | exact HB.out | apply below_alloc | apply pw_below_drewN | apply below_drew1) | exact HB.out)) hb); clear HO1; clear HB; have HO1 := n0_; have HB := n1_; clear n0_ n1_; (try clear hb); (try clear hb2); (try clear hk); (try clear hi)) | (go_at_call 8; (with_reducible refine (monticulelaw28_few.calls k _ _ l0 true _ ?side1 ?side2 A7.out).mono ?_); (case side1 => repeat (first | exact (Kd.C_below HR0.out HB.out) | (with_reducible refine Kd.C_alloc ?_ _) | (with_reducible refine Kd.C_drewN ?_ _) | (with_reducible refine Kd.C_drew ?_))); (case side2 => exact HC0.out); rintro e w' ⟨rfl, ⟨nd, rfl⟩⟩; (try first | exact ⟨rfl, _, World.drewN_drewN _ _ _⟩ | exact ⟨rfl, _, Eq.trans (World.drewN_drewN _ _ _) (congrArg (World.drewN _) (Nat.add_assoc _ _ _))⟩)) | (go_at_call 9; (with_reducible refine (monticuleref28_Few.calls k _ _ l1 8 t246 _ ?side1 ?side2 A9.out).mono ?_); (case side1 => repeat (first | exact (Kd.V_reads' HO1.out).2.2 | (with_reducible refine Kd.C_alloc ?_ _) | (with_reducible refine Kd.C_drewN ?_ _) | (with_reducible refine Kd.C_drew ?_))); (case side2 => exact (Kd.V_reads' HO1.out).2.1); rintro e w11 ⟨rfl, hb⟩; have n0_ := Aside0.mk (Kd.V_below (by (with_reducible repeat (first | apply Kd.V_alloc | apply Kd.V_drewN | apply Kd.V_drew)); exact HO1.out) hb); have n1_ := Aside0.mk (below_step (by repeat (first | (with_reducible first | exact HB.out | apply below_alloc | apply pw_below_drewN | apply below_drew1) | exact HB.out)) hb); clear HO1; clear HB; have HO1 := n0_; have HB := n1_; clear n0_ n1_; (try clear hb); (try clear hb2); (try clear hk); (try clear hi)))
        repeat (go_quiet (first | (go_at_call 7; (with_reducible refine (monticulelaw28_awake.calls k  true _ A5.out).mono ?_); rintro e w10 ⟨rfl, hb⟩; have n0_ := Aside0.mk (Kd.V_below (by (with_reducible repeat (first | apply Kd.V_alloc | apply Kd.V_drewN | apply Kd.V_drew)); exact HO1.out) hb); have n1_ := Aside0.mk (below_step (by repeat (first | (with_reducible first | exact HB.out | apply below_alloc | apply pw_below_drewN | apply below_drew1) | exact HB.out)) hb); clear HO1; clear HB; have HO1 := n0_; have HB := n1_; clear n0_ n1_; (try clear hb); (try clear hb2); (try clear hk); (try clear hi)) | (go_at_call 8; (with_reducible refine (monticulelaw28_few.calls k _ _ l0 true _ ?side1 ?side2 A7.out).mono ?_); (case side1 => repeat (first | exact (Kd.C_below HR0.out HB.out) | (with_reducible refine Kd.C_alloc ?_ _) | (with_reducible refine Kd.C_drewN ?_ _) | (with_reducible refine Kd.C_drew ?_))); (case side2 => exact HC0.out); rintro e w' ⟨rfl, ⟨nd, rfl⟩⟩; (try first | exact ⟨rfl, _, World.drewN_drewN _ _ _⟩ | exact ⟨rfl, _, Eq.trans (World.drewN_drewN _ _ _) (congrArg (World.drewN _) (Nat.add_assoc _ _ _))⟩)) | (go_at_call 9; (with_reducible refine (monticuleref28_Few.calls k _ _ l1 8 t246 _ ?side1 ?side2 A9.out).mono ?_); (case side1 => repeat (first | exact (Kd.V_reads' HO1.out).2.2 | (with_reducible refine Kd.C_alloc ?_ _) | (with_reducible refine Kd.C_drewN ?_ _) | (with_reducible refine Kd.C_drew ?_))); (case side2 => exact (Kd.V_reads' HO1.out).2.1); rintro e w11 ⟨rfl, hb⟩; have n0_ := Aside0.mk (Kd.V_below (by (with_reducible repeat (first | apply Kd.V_alloc | apply Kd.V_drewN | apply Kd.V_drew)); exact HO1.out) hb); have n1_ := Aside0.mk (below_step (by repeat (first | (with_reducible first | exact HB.out | apply below_alloc | apply pw_below_drewN | apply below_drew1) | exact HB.out)) hb); clear HO1; clear HB; have HO1 := n0_; have HB := n1_; clear n0_ n1_; (try clear hb); (try clear hb2); (try clear hk); (try clear hi))); try go_wp2_with (first | (go_at_call 7; (with_reducible refine (monticulelaw28_awake.calls k  true _ A5.out).mono ?_); rintro e w10 ⟨rfl, hb⟩; have n0_ := Aside0.mk (Kd.V_below (by (with_reducible repeat (first | apply Kd.V_alloc | apply Kd.V_drewN | apply Kd.V_drew)); exact HO1.out) hb); have n1_ := Aside0.mk (below_step (by repeat (first | (with_reducible first | exact HB.out | apply below_alloc | apply pw_below_drewN | apply below_drew1) | exact HB.out)) hb); clear HO1; clear HB; have HO1 := n0_; have HB := n1_; clear n0_ n1_; (try clear hb); (try clear hb2); (try clear hk); (try clear hi)) | (go_at_call 8; (with_reducible refine (monticulelaw28_few.calls k _ _ l0 true _ ?side1 ?side2 A7.out).mono ?_); (case side1 => repeat (first | exact (Kd.C_below HR0.out HB.out) | (with_reducible refine Kd.C_alloc ?_ _) | (with_reducible refine Kd.C_drewN ?_ _) | (with_reducible refine Kd.C_drew ?_))); (case side2 => exact HC0.out); rintro e w' ⟨rfl, ⟨nd, rfl⟩⟩; (try first | exact ⟨rfl, _, World.drewN_drewN _ _ _⟩ | exact ⟨rfl, _, Eq.trans (World.drewN_drewN _ _ _) (congrArg (World.drewN _) (Nat.add_assoc _ _ _))⟩)) | (go_at_call 9; (with_reducible refine (monticuleref28_Few.calls k _ _ l1 8 t246 _ ?side1 ?side2 A9.out).mono ?_); (case side1 => repeat (first | exact (Kd.V_reads' HO1.out).2.2 | (with_reducible refine Kd.C_alloc ?_ _) | (with_reducible refine Kd.C_drewN ?_ _) | (with_reducible refine Kd.C_drew ?_))); (case side2 => exact (Kd.V_reads' HO1.out).2.1); rintro e w11 ⟨rfl, hb⟩; have n0_ := Aside0.mk (Kd.V_below (by (with_reducible repeat (first | apply Kd.V_alloc | apply Kd.V_drewN | apply Kd.V_drew)); exact HO1.out) hb); have n1_ := Aside0.mk (below_step (by repeat (first | (with_reducible first | exact HB.out | apply below_alloc | apply pw_below_drewN | apply below_drew1) | exact HB.out)) hb); clear HO1; clear HB; have HO1 := n0_; have HB := n1_; clear n0_ n1_; (try clear hb); (try clear hb2); (try clear hk); (try clear hi))))
        go_meet
        case rel => exact ⟨_, (!t246), (by first | rfl | (simp; done) | (simp [*]; done)), H', ⟨by first | omega | exact Nat.le_refl _⟩, ⟨by (with_reducible repeat (first | apply Kd.V_alloc | apply Kd.V_drewN | apply Kd.V_drew)); exact HO1.out⟩, ⟨by repeat (first | (with_reducible first | exact HB.out | apply below_alloc | apply pw_below_drewN | apply below_drew1) | exact HB.out)⟩⟩
      · replace c8 := Bool.eq_false_iff.mpr c8
        subst c8
        have H1 : (monticulelaw28_PlanTurned.j0 k l0 l1 a2 true) = some r := by rw [if_neg (show ¬ (false = true) by decide)] at H; exact H
        clear H
        have H := H1
        clear H1
        have H' := Aside0.mk H
        clear H
        go_wp2_with (first | (go_at_call 7; (with_reducible refine (monticulelaw28_awake.calls k  true _ A5.out).mono ?_); rintro e w12 ⟨rfl, hb⟩; have n0_ := Aside0.mk (Kd.V_below (by (with_reducible repeat (first | apply Kd.V_alloc | apply Kd.V_drewN | apply Kd.V_drew)); exact HO1.out) hb); have n1_ := Aside0.mk (below_step (by repeat (first | (with_reducible first | exact HB.out | apply below_alloc | apply pw_below_drewN | apply below_drew1) | exact HB.out)) hb); clear HO1; clear HB; have HO1 := n0_; have HB := n1_; clear n0_ n1_; (try clear hb); (try clear hb2); (try clear hk); (try clear hi)) | (go_at_call 8; (with_reducible refine (monticulelaw28_few.calls k _ _ l0 false _ ?side1 ?side2 A7.out).mono ?_); (case side1 => repeat (first | exact (Kd.C_below HR0.out HB.out) | (with_reducible refine Kd.C_alloc ?_ _) | (with_reducible refine Kd.C_drewN ?_ _) | (with_reducible refine Kd.C_drew ?_))); (case side2 => exact HC0.out); rintro e w' ⟨rfl, ⟨nd, rfl⟩⟩; (try first | exact ⟨rfl, _, World.drewN_drewN _ _ _⟩ | exact ⟨rfl, _, Eq.trans (World.drewN_drewN _ _ _) (congrArg (World.drewN _) (Nat.add_assoc _ _ _))⟩)))
        repeat (go_quiet (first | (go_at_call 7; (with_reducible refine (monticulelaw28_awake.calls k  true _ A5.out).mono ?_); rintro e w12 ⟨rfl, hb⟩; have n0_ := Aside0.mk (Kd.V_below (by (with_reducible repeat (first | apply Kd.V_alloc | apply Kd.V_drewN | apply Kd.V_drew)); exact HO1.out) hb); have n1_ := Aside0.mk (below_step (by repeat (first | (with_reducible first | exact HB.out | apply below_alloc | apply pw_below_drewN | apply below_drew1) | exact HB.out)) hb); clear HO1; clear HB; have HO1 := n0_; have HB := n1_; clear n0_ n1_; (try clear hb); (try clear hb2); (try clear hk); (try clear hi)) | (go_at_call 8; (with_reducible refine (monticulelaw28_few.calls k _ _ l0 false _ ?side1 ?side2 A7.out).mono ?_); (case side1 => repeat (first | exact (Kd.C_below HR0.out HB.out) | (with_reducible refine Kd.C_alloc ?_ _) | (with_reducible refine Kd.C_drewN ?_ _) | (with_reducible refine Kd.C_drew ?_))); (case side2 => exact HC0.out); rintro e w' ⟨rfl, ⟨nd, rfl⟩⟩; (try first | exact ⟨rfl, _, World.drewN_drewN _ _ _⟩ | exact ⟨rfl, _, Eq.trans (World.drewN_drewN _ _ _) (congrArg (World.drewN _) (Nat.add_assoc _ _ _))⟩))); try go_wp2_with (first | (go_at_call 7; (with_reducible refine (monticulelaw28_awake.calls k  true _ A5.out).mono ?_); rintro e w12 ⟨rfl, hb⟩; have n0_ := Aside0.mk (Kd.V_below (by (with_reducible repeat (first | apply Kd.V_alloc | apply Kd.V_drewN | apply Kd.V_drew)); exact HO1.out) hb); have n1_ := Aside0.mk (below_step (by repeat (first | (with_reducible first | exact HB.out | apply below_alloc | apply pw_below_drewN | apply below_drew1) | exact HB.out)) hb); clear HO1; clear HB; have HO1 := n0_; have HB := n1_; clear n0_ n1_; (try clear hb); (try clear hb2); (try clear hk); (try clear hi)) | (go_at_call 8; (with_reducible refine (monticulelaw28_few.calls k _ _ l0 false _ ?side1 ?side2 A7.out).mono ?_); (case side1 => repeat (first | exact (Kd.C_below HR0.out HB.out) | (with_reducible refine Kd.C_alloc ?_ _) | (with_reducible refine Kd.C_drewN ?_ _) | (with_reducible refine Kd.C_drew ?_))); (case side2 => exact HC0.out); rintro e w' ⟨rfl, ⟨nd, rfl⟩⟩; (try first | exact ⟨rfl, _, World.drewN_drewN _ _ _⟩ | exact ⟨rfl, _, Eq.trans (World.drewN_drewN _ _ _) (congrArg (World.drewN _) (Nat.add_assoc _ _ _))⟩))))
        go_meet
        case rel => exact ⟨_, (true), (by first | rfl | (simp; done) | (simp [*]; done)), H', ⟨by first | omega | exact Nat.le_refl _⟩, ⟨by (with_reducible repeat (first | apply Kd.V_alloc | apply Kd.V_drewN | apply Kd.V_drew)); exact HO1.out⟩, ⟨by repeat (first | (with_reducible first | exact HB.out | apply below_alloc | apply pw_below_drewN | apply below_drew1) | exact HB.out)⟩⟩
    · replace c6 := Bool.eq_false_iff.mpr c6
      subst c6
      have H1 : (monticulelaw28_PlanTurned.j0 k l0 l1 a2 true) = some r := by rw [if_neg (show ¬ (false = true) by decide)] at H; exact H
      clear H
      have H := H1
      clear H1
      have H' := Aside0.mk H
      clear H
      go_wp2_with (first | (go_at_call 7; (with_reducible refine (monticulelaw28_awake.calls k  false _ A5.out).mono ?_); rintro e w13 ⟨rfl, hb⟩; have n0_ := Aside0.mk (Kd.V_below (by (with_reducible repeat (first | apply Kd.V_alloc | apply Kd.V_drewN | apply Kd.V_drew)); exact HO1.out) hb); have n1_ := Aside0.mk (below_step (by repeat (first | (with_reducible first | exact HB.out | apply below_alloc | apply pw_below_drewN | apply below_drew1) | exact HB.out)) hb); clear HO1; clear HB; have HO1 := n0_; have HB := n1_; clear n0_ n1_; (try clear hb); (try clear hb2); (try clear hk); (try clear hi)))
      repeat (go_quiet (first | (go_at_call 7; (with_reducible refine (monticulelaw28_awake.calls k  false _ A5.out).mono ?_); rintro e w13 ⟨rfl, hb⟩; have n0_ := Aside0.mk (Kd.V_below (by (with_reducible repeat (first | apply Kd.V_alloc | apply Kd.V_drewN | apply Kd.V_drew)); exact HO1.out) hb); have n1_ := Aside0.mk (below_step (by repeat (first | (with_reducible first | exact HB.out | apply below_alloc | apply pw_below_drewN | apply below_drew1) | exact HB.out)) hb); clear HO1; clear HB; have HO1 := n0_; have HB := n1_; clear n0_ n1_; (try clear hb); (try clear hb2); (try clear hk); (try clear hi))); try go_wp2_with (first | (go_at_call 7; (with_reducible refine (monticulelaw28_awake.calls k  false _ A5.out).mono ?_); rintro e w13 ⟨rfl, hb⟩; have n0_ := Aside0.mk (Kd.V_below (by (with_reducible repeat (first | apply Kd.V_alloc | apply Kd.V_drewN | apply Kd.V_drew)); exact HO1.out) hb); have n1_ := Aside0.mk (below_step (by repeat (first | (with_reducible first | exact HB.out | apply below_alloc | apply pw_below_drewN | apply below_drew1) | exact HB.out)) hb); clear HO1; clear HB; have HO1 := n0_; have HB := n1_; clear n0_ n1_; (try clear hb); (try clear hb2); (try clear hk); (try clear hi))))
      go_meet
      case rel => exact ⟨_, (true), (by first | rfl | (simp; done) | (simp [*]; done)), H', ⟨by first | omega | exact Nat.le_refl _⟩, ⟨by (with_reducible repeat (first | apply Kd.V_alloc | apply Kd.V_drewN | apply Kd.V_drew)); exact HO1.out⟩, ⟨by repeat (first | (with_reducible first | exact HB.out | apply below_alloc | apply pw_below_drewN | apply below_drew1) | exact HB.out)⟩⟩
  case rest =>
    clear HC4
    try clear c1
    try clear p2
    try clear c4
    try clear c6
    try clear c8
    obtain ⟨kq, x27_3, rfl, HA, HJ3, HO_1, HB⟩ := hcut
    cases kq with
    | zero => exact absurd HA.out (by simp [monticulelaw28_PlanTurned.j0])
    | succ kj3 =>
      have H := HA.out
      clear HA
      simp only [monticulelaw28_PlanTurned.j0] at H
      by_cases c14 : x27_3 = true
      · subst c14
        have H1 : ((monticulelaw28_awake.f kj3).bind fun t247 => (some t247)) = some r := by rw [if_pos rfl] at H; exact H
        clear H
        have H := H1
        clear H1
        replace H := Option.bind_eq_some_iff.mp H
        obtain ⟨t247, A150, H⟩ := H
        replace H : (some t247) = some r := H
        have A15 := Aside0.mk A150
        clear A150
        obtain rfl := Option.some.inj H
        go_wp2_with (first | (go_at_call 7; (with_reducible refine (monticulelaw28_awake.calls kj3  t247 _ A15.out).mono ?_); rintro e w16 ⟨rfl, hb⟩; have n0_ := Aside0.mk (Kd.V_below (by (with_reducible repeat (first | apply Kd.V_alloc | apply Kd.V_drewN | apply Kd.V_drew)); exact HO_1.out) hb); have n1_ := Aside0.mk (below_step (by repeat (first | (with_reducible first | exact HB.out | apply below_alloc | apply pw_below_drewN | apply below_drew1) | exact HB.out)) hb); clear HO_1; clear HB; have HO_1 := n0_; have HB := n1_; clear n0_ n1_; (try clear hb); (try clear hb2); (try clear hk); (try clear hi)))
        repeat (go_quiet (first | (go_at_call 7; (with_reducible refine (monticulelaw28_awake.calls kj3  t247 _ A15.out).mono ?_); rintro e w16 ⟨rfl, hb⟩; have n0_ := Aside0.mk (Kd.V_below (by (with_reducible repeat (first | apply Kd.V_alloc | apply Kd.V_drewN | apply Kd.V_drew)); exact HO_1.out) hb); have n1_ := Aside0.mk (below_step (by repeat (first | (with_reducible first | exact HB.out | apply below_alloc | apply pw_below_drewN | apply below_drew1) | exact HB.out)) hb); clear HO_1; clear HB; have HO_1 := n0_; have HB := n1_; clear n0_ n1_; (try clear hb); (try clear hb2); (try clear hk); (try clear hi))); try go_wp2_with (first | (go_at_call 7; (with_reducible refine (monticulelaw28_awake.calls kj3  t247 _ A15.out).mono ?_); rintro e w16 ⟨rfl, hb⟩; have n0_ := Aside0.mk (Kd.V_below (by (with_reducible repeat (first | apply Kd.V_alloc | apply Kd.V_drewN | apply Kd.V_drew)); exact HO_1.out) hb); have n1_ := Aside0.mk (below_step (by repeat (first | (with_reducible first | exact HB.out | apply below_alloc | apply pw_below_drewN | apply below_drew1) | exact HB.out)) hb); clear HO_1; clear HB; have HO_1 := n0_; have HB := n1_; clear n0_ n1_; (try clear hb); (try clear hb2); (try clear hk); (try clear hi))))
        go_ret
        exact ⟨by first | rfl | (simp [errW_none, errW_some] <;> rfl) | (simp [*, errW_none, errW_some] <;> rfl), by repeat (first | (with_reducible first | exact HB.out | apply below_alloc | apply pw_below_drewN | apply below_drew1) | exact HB.out)⟩
      · replace c14 := Bool.eq_false_iff.mpr c14
        subst c14
        have H1 : (monticulelaw28_PlanTurned.l0 kj3 l0 l1 a2 ([] : List (S34)) 0) = some r := by rw [if_neg (show ¬ (false = true) by decide)] at H; exact H
        clear H
        have H := H1
        clear H1
        have H' := Aside0.mk H
        clear H
        go_wp2
        repeat (go_quiet (fail); try go_wp2)
        go_loopg [7, 8] kj3 (fun kq v7 v8 w' => ∃ (x7_2 : List (S34)) (x8_2 : Int), v8 = .int .i64 x8_2 ∧ Aside0 (monticulelaw28_PlanTurned.l0 kq l0 l1 a2 x7_2 x8_2 = some r) ∧ Aside0 (kq ≤ kj3) ∧ Aside0 (Kd.V k34 34 w' w.heap.size (fun k_ => (P1_ k_ ∨ w.heap.size ≤ k_) ∧ some k_ ≠ (v7 : Value).ownBlock) (.slice A1 l1.length c1) l1) ∧ Aside0 (Kd.N k34 34 w' w.heap.size (fun k_ => (P1_ k_ ∨ w.heap.size ≤ k_)) v7 x7_2) ∧ Aside0 (Below w.heap.size w w'))
        case atStart => exact ⟨(([] : List (S34))), (0), (by first | rfl | (simp; done) | (simp [*]; done)), H', ⟨Nat.le_refl _⟩, ⟨by (with_reducible repeat (first | apply Kd.V_alloc | apply Kd.V_drewN | apply Kd.V_drew)); exact Kd.V_mono HO_1.out (fun _ hk => ⟨hk, (by simp [Value.ownBlock])⟩)⟩, ⟨by first | exact Kd.R_nil _ _ _ _ _ | exact Kd.N_nil _ _ _ _ _ | exact Kd.V_nil _ _ _ _ _ | exact Kd.Q_nil _ _ _ _ _ | exact Kd.S_nil _ _ _ _ _⟩, ⟨by repeat (first | (with_reducible first | exact HB.out | apply below_alloc | apply pw_below_drewN | apply below_drew1) | exact HB.out)⟩⟩
        case round =>
          clear H'
          try clear c1
          try clear p2
          try clear c4
          try clear c6
          try clear c8
          try clear c14
          try clear p2
          obtain ⟨x7_2, x8_2, rfl, HA, HK2, HO_1, HO_7, HB⟩ := hrel
          cases gk with
          | zero => exact absurd HA.out (by simp [monticulelaw28_PlanTurned.l0])
          | succ k2 =>
            have H := HA.out
            clear HA
            simp only [monticulelaw28_PlanTurned.l0] at H
            by_cases c17 : x8_2 < (l1.length : Int)
            · rw [if_pos c17] at H
              have c17b0 : decide (x8_2 < (l1.length : Int)) = true := decide_eq_true c17
              clear c17
              replace H := Option.bind_eq_some_iff.mp H
              obtain ⟨t248, A180, H⟩ := H
              replace H : (if (l1.length : Int) = 0 then (none) else (if 0 ≤ (Int.tmod (wrap64 (x8_2 + t248)) (l1.length : Int)) then (if (Int.tmod (wrap64 (x8_2 + t248)) (l1.length : Int)) < (l1.length : Int) then (if x7_2.length < 1954687338268 then (monticulelaw28_PlanTurned.l0 k2 l0 l1 a2 (x7_2 ++ [(⟨(rd_T34 l1 (Int.tmod (wrap64 (x8_2 + t248)) (l1.length : Int))).f0, (rd_T34 l1 (Int.tmod (wrap64 (x8_2 + t248)) (l1.length : Int))).f1, (rd_T34 l1 (Int.tmod (wrap64 (x8_2 + t248)) (l1.length : Int))).f2, (rd_T34 l1 (Int.tmod (wrap64 (x8_2 + t248)) (l1.length : Int))).f3⟩ : S34)]) (wrap64 (x8_2 + 1))) else (none)) else (none)) else (none))) = some r := H
              have A18 := Aside0.mk A180
              clear A180
              by_cases c19 : (l1.length : Int) = 0
              · rw [if_pos c19] at H
                exact absurd H (by simp)
              · rw [if_neg c19] at H
                have c19b0 : ((l1.length : Int) == 0) = false := beq_eq_false_iff_ne.mpr c19
                have c19b1 : ((l1.length : Int) != 0) = true := bne_iff_ne.mpr c19
                have c19b2 : ¬ (l1 = []) := fun h_ => c19 (by rw [h_]; rfl)
                obtain ⟨ji20, hji20⟩ : ∃ j_ : Int, (Int.tmod (wrap64 (x8_2 + t248)) (l1.length : Int)) = j_ := ⟨_, rfl⟩
                replace H : (if 0 ≤ (ji20) then (if (ji20) < (l1.length : Int) then (if x7_2.length < 1954687338268 then (monticulelaw28_PlanTurned.l0 k2 l0 l1 a2 (x7_2 ++ [(⟨(rd_T34 l1 (ji20)).f0, (rd_T34 l1 (ji20)).f1, (rd_T34 l1 (ji20)).f2, (rd_T34 l1 (ji20)).f3⟩ : S34)]) (wrap64 (x8_2 + 1))) else (none)) else (none)) else (none)) = some r := by first | (rw [hji20] at H; exact H) | (simp only [hji20] at H ⊢; exact H)
                (try rw [hji20] at A18)
                by_cases c21 : 0 ≤ (ji20)
                · rw [if_pos c21] at H
                  have c21b0 : decide (0 ≤ (ji20)) = true := decide_eq_true c21
                  clear c21
                  by_cases c22 : (ji20) < (l1.length : Int)
                  · rw [if_pos c22] at H
                    have c22b0 : decide ((ji20) < (l1.length : Int)) = true := decide_eq_true c22
                    clear c22
                    by_cases c23 : x7_2.length < 1954687338268
                    · rw [if_pos c23] at H
                      have LMc23 := Aside0.mk c23
                      clear c23
                      obtain ⟨y250, hy250⟩ : ∃ y_ : List (S34), y_ = (x7_2 ++ [(⟨(rd_T34 l1 (ji20)).f0, (rd_T34 l1 (ji20)).f1, (rd_T34 l1 (ji20)).f2, (rd_T34 l1 (ji20)).f3⟩ : S34)]) := ⟨_, rfl⟩
                      replace H : (monticulelaw28_PlanTurned.l0 k2 l0 l1 a2 y250 (wrap64 (x8_2 + 1))) = some r := by first | (rw [hy250]; with_reducible exact H) | (have H2_ := (Option.bind_some _ _).symm.trans H; rw [hy250]; with_reducible exact H2_) | (have H2_ := (Option.bind_some _ _).symm.trans H; with_reducible exact H2_) | with_reducible exact H | (rw [hy250]; exact H) | exact H
                      have Ny250 := Aside0.mk hy250
                      clear hy250
                      have H' := Aside0.mk H
                      clear H
                      go_wp2_with (first | (go_at_call 12; (with_reducible refine (monticuleref01_Rest.calls a2 (l1.length : Int) t248 _ A18.out).mono ?_); rintro e w' ⟨rfl, ⟨nd, rfl⟩⟩; (try first | exact ⟨rfl, _, World.drewN_drewN _ _ _⟩ | exact ⟨rfl, _, Eq.trans (World.drewN_drewN _ _ _) (congrArg (World.drewN _) (Nat.add_assoc _ _ _))⟩); have p249 : 0 ≤ ((ji20) : Int) := of_decide_eq_true (by first | (with_reducible assumption) | assumption); have q249 : (ji20) < (l1.length : Int) := of_decide_eq_true (by first | (with_reducible assumption) | assumption); obtain ⟨ad249, A249_2, c249_2, A249_3, c249_3, e249, hx249_0, hx249_1, hx249_2, hx249_3, hl249_2, hi249_2, hl249_3, hi249_3⟩ := at_T34 (Kd.V_reads' HO_1.out).2.2 (ji20) p249 q249; cases e249; obtain ⟨ce249, hce249, hMe249, hcc249⟩ := Kd.V_get HO_1.out z34 (ji20) p249 (by first | exact q249 | exact of_decide_eq_true (by first | (with_reducible assumption) | assumption) | (have e_ := (Kd.V_reads' HO_1.out).1; omega)); obtain ⟨ua249_2, uc249_2, ua249_3, uc249_3, rfl, ul249_2, ge249_2, ul249_3, ge249_3⟩ := k34_openF hMe249; have hv249_2 := hcc249 2 _ rfl; rw [add_field _ _ 2 (by omega)] at hv249_2; replace hv249_2 := Option.some.inj (hv249_2.symm.trans hx249_2); injection hv249_2 with hva_ hvn_ hvc_; rw [hva_] at ge249_2; rw [hvc_] at ul249_2; have HL249_2 := Aside0.mk (show Kd.V Kd.string 9 _ w.heap.size _ _ ((rd_T34 l1 (ji20)).f2) from Kd.V_mk ul249_2 ge249_2); clear hva_ hvn_ hvc_ ge249_2 ul249_2; have hv249_3 := hcc249 3 _ rfl; rw [add_field _ _ 3 (by omega)] at hv249_3; replace hv249_3 := Option.some.inj (hv249_3.symm.trans hx249_3); injection hv249_3 with hva_ hvn_ hvc_; rw [hva_] at ge249_3; rw [hvc_] at ul249_3; have HL249_3 := Aside0.mk (show Kd.V k68 68 _ w.heap.size _ _ ((rd_T34 l1 (ji20)).f3) from Kd.V_mk ul249_3 ge249_3); clear hva_ hvn_ hvc_ ge249_3 ul249_3; clear hcc249 hce249; have HR249_2 := Aside0.mk hi249_2; have HC249_2 := Aside0.mk hl249_2; clear hi249_2 hl249_2; have HR249_3 := Aside0.mk hi249_3; have HC249_3 := Aside0.mk hl249_3; clear hi249_3 hl249_3; replace p249 := eq_true p249; replace q249 := eq_true q249) | ((with_reducible refine gate_builtin (b := .append) (xs := #[.tmp 35, .tmp 48]) rfl ?_); (try (refine gate_guard (by rfl) ?_; dsimp only)); at_builtin; refine Kd.N_append k34 (w0 := w) w.heap.size rfl (.tmp 35) (.tmp 48) 23 34 (.agg #[(.string ⟨#[]⟩), (.int .i64 0), (.slice none 0 0), (.slice none 0 0)]) 72 rfl Tryd.underlying23 info34 rfl (by decide) (by omega) u7 x7_2 (⟨(rd_T34 l1 (ji20)).f0, (rd_T34 l1 (ji20)).f1, (rd_T34 l1 (ji20)).f2, (rd_T34 l1 (ji20)).f3⟩ : S34) [.string ((rd_T34 l1 (ji20)).f0), .int .i64 ((rd_T34 l1 (ji20)).f1), .slice A249_2 ((rd_T34 l1 (ji20)).f2).length c249_2, .slice A249_3 ((rd_T34 l1 (ji20)).f3).length c249_3] (fun k_ => (P1_ k_ ∨ w.heap.size ≤ k_)) (fun k_ => ((fun k_ => (P1_ k_ ∨ w.heap.size ≤ k_))) k_ ∧ some k_ ≠ (u7 : Value).ownBlock) rfl rfl ?aP (fun _ hk => hk) ?aF ?aO ?aB ?aS ?aL ?_; (case aP => exact (k34_mkF _ _ (⟨(rd_T34 l1 (ji20)).f0, (rd_T34 l1 (ji20)).f1, (rd_T34 l1 (ji20)).f2, (rd_T34 l1 (ji20)).f3⟩ : S34) (Kd.V_reads' (Kd.V_mono (ok' := (fun k_ => ((fun k_ => (P1_ k_ ∨ w.heap.size ≤ k_))) k_ ∧ some k_ ≠ (u7 : Value).ownBlock)) (HL249_2.out) (fun k_ hk => ⟨hk.1, hk.2⟩))).2.1 (Kd.V_F (Kd.V_mono (ok' := (fun k_ => ((fun k_ => (P1_ k_ ∨ w.heap.size ≤ k_))) k_ ∧ some k_ ≠ (u7 : Value).ownBlock)) (HL249_2.out) (fun k_ hk => ⟨hk.1, hk.2⟩))) (Kd.V_reads' (Kd.V_mono (ok' := (fun k_ => ((fun k_ => (P1_ k_ ∨ w.heap.size ≤ k_))) k_ ∧ some k_ ≠ (u7 : Value).ownBlock)) (HL249_3.out) (fun k_ hk => ⟨hk.1, hk.2⟩))).2.1 (Kd.V_F (Kd.V_mono (ok' := (fun k_ => ((fun k_ => (P1_ k_ ∨ w.heap.size ≤ k_))) k_ ∧ some k_ ≠ (u7 : Value).ownBlock)) (HL249_3.out) (fun k_ hk => ⟨hk.1, hk.2⟩))))); (case aB => exact (by repeat (first | (with_reducible first | exact HB.out | apply below_alloc | apply pw_below_drewN | apply below_drew1) | exact HB.out))); (case aF => exact (fun k_ hk => (.inr (Nat.le_trans (below_size (by repeat (first | (with_reducible first | exact HB.out | apply below_alloc | apply pw_below_drewN | apply below_drew1) | exact HB.out))) hk)))); (case aO => exact (by (with_reducible repeat (first | apply Kd.N_alloc | apply Kd.N_drewN | apply Kd.N_drew)); exact HO_7.out)); (case aS => exact (below_size (by repeat (first | (with_reducible first | exact HB.out | apply below_alloc | apply pw_below_drewN | apply below_drew1) | exact HB.out)))); (case aL => have := LMc23.out; omega); intro v251 w24 ho hb hg hat; rw [← Ny250.out] at ho; have n0_ := Aside0.mk (Kd.V_afterv (ok := (fun k_ => (P1_ k_ ∨ w.heap.size ≤ k_))) (by (with_reducible repeat (first | apply Kd.V_alloc | apply Kd.V_drewN | apply Kd.V_drew)); exact HO_1.out) hg hat); have n1_ := Aside0.mk (Kd.V_afterv (ok := (fun k_ => (P1_ k_ ∨ w.heap.size ≤ k_))) (by (with_reducible repeat (first | apply Kd.V_alloc | apply Kd.V_drewN | apply Kd.V_drew)); exact HL249_2.out) hg hat); have n2_ := Aside0.mk (Kd.V_afterv (ok := (fun k_ => (P1_ k_ ∨ w.heap.size ≤ k_))) (by (with_reducible repeat (first | apply Kd.V_alloc | apply Kd.V_drewN | apply Kd.V_drew)); exact HL249_3.out) hg hat); have n3_ := Aside0.mk (hb); have n4_ := Aside0.mk (ho); clear HO_1; clear HL249_2; clear HL249_3; clear HB; clear HO_7; have HO_1 := n0_; have HL249_2 := n1_; have HL249_3 := n2_; have HB := n3_; have HO252 := n4_; clear n0_ n1_ n2_ n3_ n4_; clear ho hb hg hat))
                      repeat (go_quiet (first | (go_at_call 12; (with_reducible refine (monticuleref01_Rest.calls a2 (l1.length : Int) t248 _ A18.out).mono ?_); rintro e w' ⟨rfl, ⟨nd, rfl⟩⟩; (try first | exact ⟨rfl, _, World.drewN_drewN _ _ _⟩ | exact ⟨rfl, _, Eq.trans (World.drewN_drewN _ _ _) (congrArg (World.drewN _) (Nat.add_assoc _ _ _))⟩); have p249 : 0 ≤ ((ji20) : Int) := of_decide_eq_true (by first | (with_reducible assumption) | assumption); have q249 : (ji20) < (l1.length : Int) := of_decide_eq_true (by first | (with_reducible assumption) | assumption); obtain ⟨ad249, A249_2, c249_2, A249_3, c249_3, e249, hx249_0, hx249_1, hx249_2, hx249_3, hl249_2, hi249_2, hl249_3, hi249_3⟩ := at_T34 (Kd.V_reads' HO_1.out).2.2 (ji20) p249 q249; cases e249; obtain ⟨ce249, hce249, hMe249, hcc249⟩ := Kd.V_get HO_1.out z34 (ji20) p249 (by first | exact q249 | exact of_decide_eq_true (by first | (with_reducible assumption) | assumption) | (have e_ := (Kd.V_reads' HO_1.out).1; omega)); obtain ⟨ua249_2, uc249_2, ua249_3, uc249_3, rfl, ul249_2, ge249_2, ul249_3, ge249_3⟩ := k34_openF hMe249; have hv249_2 := hcc249 2 _ rfl; rw [add_field _ _ 2 (by omega)] at hv249_2; replace hv249_2 := Option.some.inj (hv249_2.symm.trans hx249_2); injection hv249_2 with hva_ hvn_ hvc_; rw [hva_] at ge249_2; rw [hvc_] at ul249_2; have HL249_2 := Aside0.mk (show Kd.V Kd.string 9 _ w.heap.size _ _ ((rd_T34 l1 (ji20)).f2) from Kd.V_mk ul249_2 ge249_2); clear hva_ hvn_ hvc_ ge249_2 ul249_2; have hv249_3 := hcc249 3 _ rfl; rw [add_field _ _ 3 (by omega)] at hv249_3; replace hv249_3 := Option.some.inj (hv249_3.symm.trans hx249_3); injection hv249_3 with hva_ hvn_ hvc_; rw [hva_] at ge249_3; rw [hvc_] at ul249_3; have HL249_3 := Aside0.mk (show Kd.V k68 68 _ w.heap.size _ _ ((rd_T34 l1 (ji20)).f3) from Kd.V_mk ul249_3 ge249_3); clear hva_ hvn_ hvc_ ge249_3 ul249_3; clear hcc249 hce249; have HR249_2 := Aside0.mk hi249_2; have HC249_2 := Aside0.mk hl249_2; clear hi249_2 hl249_2; have HR249_3 := Aside0.mk hi249_3; have HC249_3 := Aside0.mk hl249_3; clear hi249_3 hl249_3; replace p249 := eq_true p249; replace q249 := eq_true q249) | ((with_reducible refine gate_builtin (b := .append) (xs := #[.tmp 35, .tmp 48]) rfl ?_); (try (refine gate_guard (by rfl) ?_; dsimp only)); at_builtin; refine Kd.N_append k34 (w0 := w) w.heap.size rfl (.tmp 35) (.tmp 48) 23 34 (.agg #[(.string ⟨#[]⟩), (.int .i64 0), (.slice none 0 0), (.slice none 0 0)]) 72 rfl Tryd.underlying23 info34 rfl (by decide) (by omega) u7 x7_2 (⟨(rd_T34 l1 (ji20)).f0, (rd_T34 l1 (ji20)).f1, (rd_T34 l1 (ji20)).f2, (rd_T34 l1 (ji20)).f3⟩ : S34) [.string ((rd_T34 l1 (ji20)).f0), .int .i64 ((rd_T34 l1 (ji20)).f1), .slice A249_2 ((rd_T34 l1 (ji20)).f2).length c249_2, .slice A249_3 ((rd_T34 l1 (ji20)).f3).length c249_3] (fun k_ => (P1_ k_ ∨ w.heap.size ≤ k_)) (fun k_ => ((fun k_ => (P1_ k_ ∨ w.heap.size ≤ k_))) k_ ∧ some k_ ≠ (u7 : Value).ownBlock) rfl rfl ?aP (fun _ hk => hk) ?aF ?aO ?aB ?aS ?aL ?_; (case aP => exact (k34_mkF _ _ (⟨(rd_T34 l1 (ji20)).f0, (rd_T34 l1 (ji20)).f1, (rd_T34 l1 (ji20)).f2, (rd_T34 l1 (ji20)).f3⟩ : S34) (Kd.V_reads' (Kd.V_mono (ok' := (fun k_ => ((fun k_ => (P1_ k_ ∨ w.heap.size ≤ k_))) k_ ∧ some k_ ≠ (u7 : Value).ownBlock)) (HL249_2.out) (fun k_ hk => ⟨hk.1, hk.2⟩))).2.1 (Kd.V_F (Kd.V_mono (ok' := (fun k_ => ((fun k_ => (P1_ k_ ∨ w.heap.size ≤ k_))) k_ ∧ some k_ ≠ (u7 : Value).ownBlock)) (HL249_2.out) (fun k_ hk => ⟨hk.1, hk.2⟩))) (Kd.V_reads' (Kd.V_mono (ok' := (fun k_ => ((fun k_ => (P1_ k_ ∨ w.heap.size ≤ k_))) k_ ∧ some k_ ≠ (u7 : Value).ownBlock)) (HL249_3.out) (fun k_ hk => ⟨hk.1, hk.2⟩))).2.1 (Kd.V_F (Kd.V_mono (ok' := (fun k_ => ((fun k_ => (P1_ k_ ∨ w.heap.size ≤ k_))) k_ ∧ some k_ ≠ (u7 : Value).ownBlock)) (HL249_3.out) (fun k_ hk => ⟨hk.1, hk.2⟩))))); (case aB => exact (by repeat (first | (with_reducible first | exact HB.out | apply below_alloc | apply pw_below_drewN | apply below_drew1) | exact HB.out))); (case aF => exact (fun k_ hk => (.inr (Nat.le_trans (below_size (by repeat (first | (with_reducible first | exact HB.out | apply below_alloc | apply pw_below_drewN | apply below_drew1) | exact HB.out))) hk)))); (case aO => exact (by (with_reducible repeat (first | apply Kd.N_alloc | apply Kd.N_drewN | apply Kd.N_drew)); exact HO_7.out)); (case aS => exact (below_size (by repeat (first | (with_reducible first | exact HB.out | apply below_alloc | apply pw_below_drewN | apply below_drew1) | exact HB.out)))); (case aL => have := LMc23.out; omega); intro v251 w24 ho hb hg hat; rw [← Ny250.out] at ho; have n0_ := Aside0.mk (Kd.V_afterv (ok := (fun k_ => (P1_ k_ ∨ w.heap.size ≤ k_))) (by (with_reducible repeat (first | apply Kd.V_alloc | apply Kd.V_drewN | apply Kd.V_drew)); exact HO_1.out) hg hat); have n1_ := Aside0.mk (Kd.V_afterv (ok := (fun k_ => (P1_ k_ ∨ w.heap.size ≤ k_))) (by (with_reducible repeat (first | apply Kd.V_alloc | apply Kd.V_drewN | apply Kd.V_drew)); exact HL249_2.out) hg hat); have n2_ := Aside0.mk (Kd.V_afterv (ok := (fun k_ => (P1_ k_ ∨ w.heap.size ≤ k_))) (by (with_reducible repeat (first | apply Kd.V_alloc | apply Kd.V_drewN | apply Kd.V_drew)); exact HL249_3.out) hg hat); have n3_ := Aside0.mk (hb); have n4_ := Aside0.mk (ho); clear HO_1; clear HL249_2; clear HL249_3; clear HB; clear HO_7; have HO_1 := n0_; have HL249_2 := n1_; have HL249_3 := n2_; have HB := n3_; have HO252 := n4_; clear n0_ n1_ n2_ n3_ n4_; clear ho hb hg hat)); try go_wp2_with (first | (go_at_call 12; (with_reducible refine (monticuleref01_Rest.calls a2 (l1.length : Int) t248 _ A18.out).mono ?_); rintro e w' ⟨rfl, ⟨nd, rfl⟩⟩; (try first | exact ⟨rfl, _, World.drewN_drewN _ _ _⟩ | exact ⟨rfl, _, Eq.trans (World.drewN_drewN _ _ _) (congrArg (World.drewN _) (Nat.add_assoc _ _ _))⟩); have p249 : 0 ≤ ((ji20) : Int) := of_decide_eq_true (by first | (with_reducible assumption) | assumption); have q249 : (ji20) < (l1.length : Int) := of_decide_eq_true (by first | (with_reducible assumption) | assumption); obtain ⟨ad249, A249_2, c249_2, A249_3, c249_3, e249, hx249_0, hx249_1, hx249_2, hx249_3, hl249_2, hi249_2, hl249_3, hi249_3⟩ := at_T34 (Kd.V_reads' HO_1.out).2.2 (ji20) p249 q249; cases e249; obtain ⟨ce249, hce249, hMe249, hcc249⟩ := Kd.V_get HO_1.out z34 (ji20) p249 (by first | exact q249 | exact of_decide_eq_true (by first | (with_reducible assumption) | assumption) | (have e_ := (Kd.V_reads' HO_1.out).1; omega)); obtain ⟨ua249_2, uc249_2, ua249_3, uc249_3, rfl, ul249_2, ge249_2, ul249_3, ge249_3⟩ := k34_openF hMe249; have hv249_2 := hcc249 2 _ rfl; rw [add_field _ _ 2 (by omega)] at hv249_2; replace hv249_2 := Option.some.inj (hv249_2.symm.trans hx249_2); injection hv249_2 with hva_ hvn_ hvc_; rw [hva_] at ge249_2; rw [hvc_] at ul249_2; have HL249_2 := Aside0.mk (show Kd.V Kd.string 9 _ w.heap.size _ _ ((rd_T34 l1 (ji20)).f2) from Kd.V_mk ul249_2 ge249_2); clear hva_ hvn_ hvc_ ge249_2 ul249_2; have hv249_3 := hcc249 3 _ rfl; rw [add_field _ _ 3 (by omega)] at hv249_3; replace hv249_3 := Option.some.inj (hv249_3.symm.trans hx249_3); injection hv249_3 with hva_ hvn_ hvc_; rw [hva_] at ge249_3; rw [hvc_] at ul249_3; have HL249_3 := Aside0.mk (show Kd.V k68 68 _ w.heap.size _ _ ((rd_T34 l1 (ji20)).f3) from Kd.V_mk ul249_3 ge249_3); clear hva_ hvn_ hvc_ ge249_3 ul249_3; clear hcc249 hce249; have HR249_2 := Aside0.mk hi249_2; have HC249_2 := Aside0.mk hl249_2; clear hi249_2 hl249_2; have HR249_3 := Aside0.mk hi249_3; have HC249_3 := Aside0.mk hl249_3; clear hi249_3 hl249_3; replace p249 := eq_true p249; replace q249 := eq_true q249) | ((with_reducible refine gate_builtin (b := .append) (xs := #[.tmp 35, .tmp 48]) rfl ?_); (try (refine gate_guard (by rfl) ?_; dsimp only)); at_builtin; refine Kd.N_append k34 (w0 := w) w.heap.size rfl (.tmp 35) (.tmp 48) 23 34 (.agg #[(.string ⟨#[]⟩), (.int .i64 0), (.slice none 0 0), (.slice none 0 0)]) 72 rfl Tryd.underlying23 info34 rfl (by decide) (by omega) u7 x7_2 (⟨(rd_T34 l1 (ji20)).f0, (rd_T34 l1 (ji20)).f1, (rd_T34 l1 (ji20)).f2, (rd_T34 l1 (ji20)).f3⟩ : S34) [.string ((rd_T34 l1 (ji20)).f0), .int .i64 ((rd_T34 l1 (ji20)).f1), .slice A249_2 ((rd_T34 l1 (ji20)).f2).length c249_2, .slice A249_3 ((rd_T34 l1 (ji20)).f3).length c249_3] (fun k_ => (P1_ k_ ∨ w.heap.size ≤ k_)) (fun k_ => ((fun k_ => (P1_ k_ ∨ w.heap.size ≤ k_))) k_ ∧ some k_ ≠ (u7 : Value).ownBlock) rfl rfl ?aP (fun _ hk => hk) ?aF ?aO ?aB ?aS ?aL ?_; (case aP => exact (k34_mkF _ _ (⟨(rd_T34 l1 (ji20)).f0, (rd_T34 l1 (ji20)).f1, (rd_T34 l1 (ji20)).f2, (rd_T34 l1 (ji20)).f3⟩ : S34) (Kd.V_reads' (Kd.V_mono (ok' := (fun k_ => ((fun k_ => (P1_ k_ ∨ w.heap.size ≤ k_))) k_ ∧ some k_ ≠ (u7 : Value).ownBlock)) (HL249_2.out) (fun k_ hk => ⟨hk.1, hk.2⟩))).2.1 (Kd.V_F (Kd.V_mono (ok' := (fun k_ => ((fun k_ => (P1_ k_ ∨ w.heap.size ≤ k_))) k_ ∧ some k_ ≠ (u7 : Value).ownBlock)) (HL249_2.out) (fun k_ hk => ⟨hk.1, hk.2⟩))) (Kd.V_reads' (Kd.V_mono (ok' := (fun k_ => ((fun k_ => (P1_ k_ ∨ w.heap.size ≤ k_))) k_ ∧ some k_ ≠ (u7 : Value).ownBlock)) (HL249_3.out) (fun k_ hk => ⟨hk.1, hk.2⟩))).2.1 (Kd.V_F (Kd.V_mono (ok' := (fun k_ => ((fun k_ => (P1_ k_ ∨ w.heap.size ≤ k_))) k_ ∧ some k_ ≠ (u7 : Value).ownBlock)) (HL249_3.out) (fun k_ hk => ⟨hk.1, hk.2⟩))))); (case aB => exact (by repeat (first | (with_reducible first | exact HB.out | apply below_alloc | apply pw_below_drewN | apply below_drew1) | exact HB.out))); (case aF => exact (fun k_ hk => (.inr (Nat.le_trans (below_size (by repeat (first | (with_reducible first | exact HB.out | apply below_alloc | apply pw_below_drewN | apply below_drew1) | exact HB.out))) hk)))); (case aO => exact (by (with_reducible repeat (first | apply Kd.N_alloc | apply Kd.N_drewN | apply Kd.N_drew)); exact HO_7.out)); (case aS => exact (below_size (by repeat (first | (with_reducible first | exact HB.out | apply below_alloc | apply pw_below_drewN | apply below_drew1) | exact HB.out)))); (case aL => have := LMc23.out; omega); intro v251 w24 ho hb hg hat; rw [← Ny250.out] at ho; have n0_ := Aside0.mk (Kd.V_afterv (ok := (fun k_ => (P1_ k_ ∨ w.heap.size ≤ k_))) (by (with_reducible repeat (first | apply Kd.V_alloc | apply Kd.V_drewN | apply Kd.V_drew)); exact HO_1.out) hg hat); have n1_ := Aside0.mk (Kd.V_afterv (ok := (fun k_ => (P1_ k_ ∨ w.heap.size ≤ k_))) (by (with_reducible repeat (first | apply Kd.V_alloc | apply Kd.V_drewN | apply Kd.V_drew)); exact HL249_2.out) hg hat); have n2_ := Aside0.mk (Kd.V_afterv (ok := (fun k_ => (P1_ k_ ∨ w.heap.size ≤ k_))) (by (with_reducible repeat (first | apply Kd.V_alloc | apply Kd.V_drewN | apply Kd.V_drew)); exact HL249_3.out) hg hat); have n3_ := Aside0.mk (hb); have n4_ := Aside0.mk (ho); clear HO_1; clear HL249_2; clear HL249_3; clear HB; clear HO_7; have HO_1 := n0_; have HL249_2 := n1_; have HL249_3 := n2_; have HB := n3_; have HO252 := n4_; clear n0_ n1_ n2_ n3_ n4_; clear ho hb hg hat)))
                      go_roundg k2
                      case measure => have := HJ3.out; have := HK2.out; omega
                      case rel => exact ⟨(y250), (wrap64 (x8_2 + 1)), (by first | rfl | (simp; done) | (simp [*]; done)), H', ⟨by have := HJ3.out; have := HK2.out; omega⟩, ⟨by (with_reducible repeat (first | apply Kd.V_alloc | apply Kd.V_drewN | apply Kd.V_drew)); exact HO_1.out⟩, ⟨by (with_reducible repeat (first | apply Kd.N_alloc | apply Kd.N_drewN | apply Kd.N_drew)); exact HO252.out⟩, ⟨by repeat (first | (with_reducible first | exact HB.out | apply below_alloc | apply pw_below_drewN | apply below_drew1) | exact HB.out)⟩⟩
                    · rw [if_neg c23] at H
                      exact absurd H (by simp)
                  · rw [if_neg c22] at H
                    exact absurd H (by simp)
                · rw [if_neg c21] at H
                  exact absurd H (by simp)
            · rw [if_neg c17] at H
              have c17b0 : decide (x8_2 < (l1.length : Int)) = false := decide_eq_false c17
              clear c17
              replace H := Option.bind_eq_some_iff.mp H
              obtain ⟨⟨t253, t254, t255⟩, A250, H⟩ := H
              replace H : ((plan_Order.f k2 l0 x7_2).bind fun bt258 => (if ((t254 == 0) != (bt258.2.1 == 0)) = true then (monticulelaw28_PlanTurned.j2 k2 l1 x7_2 t253 bt258.1 true) else (monticulelaw28_PlanTurned.j2 k2 l1 x7_2 t253 bt258.1 ((t253.length : Int) != (bt258.1.length : Int))))) = some r := H
              have A25 := Aside0.mk A250
              clear A250
              replace H := Option.bind_eq_some_iff.mp H
              obtain ⟨⟨t258, t259, t260⟩, A260, H⟩ := H
              replace H : (if ((t254 == 0) != (t259 == 0)) = true then (monticulelaw28_PlanTurned.j2 k2 l1 x7_2 t253 t258 true) else (monticulelaw28_PlanTurned.j2 k2 l1 x7_2 t253 t258 ((t253.length : Int) != (t258.length : Int)))) = some r := H
              have A26 := Aside0.mk A260
              clear A260
              have HC27 := Aside0.mk H
              clear H
              go_upto_region 10 with (first | (go_at_call 10; (with_reducible refine (plan_Order.calls k2 _ _ l0 _ _ l1 t253 t254 t255 _ ?side1 ?side2 ?side3 ?side4 A25.out).mono ?_); (case side1 => repeat (first | exact (Kd.C_below HR0.out HB.out) | (with_reducible refine Kd.C_alloc ?_ _) | (with_reducible refine Kd.C_drewN ?_ _) | (with_reducible refine Kd.C_drew ?_))); (case side2 => exact HC0.out); (case side3 => repeat (first | exact (Kd.V_reads' HO_1.out).2.2 | (with_reducible refine Kd.C_alloc ?_ _) | (with_reducible refine Kd.C_drewN ?_ _) | (with_reducible refine Kd.C_drew ?_))); (case side4 => exact (Kd.V_reads' HO_1.out).2.1); rintro e w28 ⟨v256, rfl, ho0, hb⟩; have n0_ := Aside0.mk (Kd.V_elder' (by (with_reducible repeat (first | apply Kd.V_alloc | apply Kd.V_drewN | apply Kd.V_drew)); exact HO_1.out) (Kd.R_base ho0) hb); have n1_ := Aside0.mk (Kd.N_elder' (by (with_reducible repeat (first | apply Kd.N_alloc | apply Kd.N_drewN | apply Kd.N_drew)); exact HO_7.out) (Kd.R_base ho0) hb); have n2_ := Aside0.mk (Kd.R_lower (Kd.R_newM (M := fun k_ => (w.heap.size ≤ k_)) ho0 (below_size (by repeat (first | (with_reducible first | exact HB.out | apply below_alloc | apply pw_below_drewN | apply below_drew1) | exact HB.out))) (fun k_ h_ => h_)) (below_size (by repeat (first | (with_reducible first | exact HB.out | apply below_alloc | apply pw_below_drewN | apply below_drew1) | exact HB.out)))); have n3_ := Aside0.mk (below_step (by repeat (first | (with_reducible first | exact HB.out | apply below_alloc | apply pw_below_drewN | apply below_drew1) | exact HB.out)) hb); clear HO_1; clear HO_7; clear HB; have HO_1 := n0_; have HO_7 := n1_; have HO257 := n2_; have HB := n3_; clear n0_ n1_ n2_ n3_; (try clear hb); (try clear hb2); (try clear hk); (try clear hi); (try clear ho0); obtain ⟨Ao29, co29, eo29⟩ := Kd.N_slice HO_7.out; subst eo29) | (go_at_call 10; (with_reducible refine (plan_Order.calls k2 _ _ l0 _ _ x7_2 t258 t259 t260 _ ?side1 ?side2 ?side3 ?side4 A26.out).mono ?_); (case side1 => repeat (first | exact (Kd.C_below HR0.out HB.out) | (with_reducible refine Kd.C_alloc ?_ _) | (with_reducible refine Kd.C_drewN ?_ _) | (with_reducible refine Kd.C_drew ?_))); (case side2 => exact HC0.out); (case side3 => repeat (first | exact (Kd.N_reads' HO_7.out).2.2 | (with_reducible refine Kd.C_alloc ?_ _) | (with_reducible refine Kd.C_drewN ?_ _) | (with_reducible refine Kd.C_drew ?_))); (case side4 => exact (Kd.N_reads' HO_7.out).2.1); rintro e w30 ⟨v261, rfl, ho0, hb⟩; have n0_ := Aside0.mk (Kd.V_elder' (by (with_reducible repeat (first | apply Kd.V_alloc | apply Kd.V_drewN | apply Kd.V_drew)); exact HO_1.out) (Kd.R_base ho0) hb); have n1_ := Aside0.mk (Kd.N_elder' (by (with_reducible repeat (first | apply Kd.N_alloc | apply Kd.N_drewN | apply Kd.N_drew)); exact HO_7.out) (Kd.R_base ho0) hb); have n2_ := Aside0.mk (Kd.R_elder' (by (with_reducible repeat (first | apply Kd.R_alloc | apply Kd.R_drewN | apply Kd.R_drew)); exact HO257.out) (Kd.R_base ho0) hb); have n3_ := Aside0.mk (Kd.R_lower (Kd.R_new' (Kd.R_newM (M := fun k_ => (w.heap.size ≤ k_)) ho0 (below_size (by repeat (first | (with_reducible first | exact HB.out | apply below_alloc | apply pw_below_drewN | apply below_drew1) | exact HB.out))) (fun k_ h_ => h_)) (Kd.R_lt (by (with_reducible repeat (first | apply Kd.R_alloc | apply Kd.R_drewN | apply Kd.R_drew)); exact HO257.out))) (below_size (by repeat (first | (with_reducible first | exact HB.out | apply below_alloc | apply pw_below_drewN | apply below_drew1) | exact HB.out)))); have n4_ := Aside0.mk (below_step (by repeat (first | (with_reducible first | exact HB.out | apply below_alloc | apply pw_below_drewN | apply below_drew1) | exact HB.out)) hb); clear HO_1; clear HO_7; clear HO257; clear HB; have HO_1 := n0_; have HO_7 := n1_; have HO257 := n2_; have HO262 := n3_; have HB := n4_; clear n0_ n1_ n2_ n3_ n4_; (try clear hb); (try clear hb2); (try clear hk); (try clear hi); (try clear ho0)))
              repeat (go_quiet (first | (go_at_call 10; (with_reducible refine (plan_Order.calls k2 _ _ l0 _ _ l1 t253 t254 t255 _ ?side1 ?side2 ?side3 ?side4 A25.out).mono ?_); (case side1 => repeat (first | exact (Kd.C_below HR0.out HB.out) | (with_reducible refine Kd.C_alloc ?_ _) | (with_reducible refine Kd.C_drewN ?_ _) | (with_reducible refine Kd.C_drew ?_))); (case side2 => exact HC0.out); (case side3 => repeat (first | exact (Kd.V_reads' HO_1.out).2.2 | (with_reducible refine Kd.C_alloc ?_ _) | (with_reducible refine Kd.C_drewN ?_ _) | (with_reducible refine Kd.C_drew ?_))); (case side4 => exact (Kd.V_reads' HO_1.out).2.1); rintro e w28 ⟨v256, rfl, ho0, hb⟩; have n0_ := Aside0.mk (Kd.V_elder' (by (with_reducible repeat (first | apply Kd.V_alloc | apply Kd.V_drewN | apply Kd.V_drew)); exact HO_1.out) (Kd.R_base ho0) hb); have n1_ := Aside0.mk (Kd.N_elder' (by (with_reducible repeat (first | apply Kd.N_alloc | apply Kd.N_drewN | apply Kd.N_drew)); exact HO_7.out) (Kd.R_base ho0) hb); have n2_ := Aside0.mk (Kd.R_lower (Kd.R_newM (M := fun k_ => (w.heap.size ≤ k_)) ho0 (below_size (by repeat (first | (with_reducible first | exact HB.out | apply below_alloc | apply pw_below_drewN | apply below_drew1) | exact HB.out))) (fun k_ h_ => h_)) (below_size (by repeat (first | (with_reducible first | exact HB.out | apply below_alloc | apply pw_below_drewN | apply below_drew1) | exact HB.out)))); have n3_ := Aside0.mk (below_step (by repeat (first | (with_reducible first | exact HB.out | apply below_alloc | apply pw_below_drewN | apply below_drew1) | exact HB.out)) hb); clear HO_1; clear HO_7; clear HB; have HO_1 := n0_; have HO_7 := n1_; have HO257 := n2_; have HB := n3_; clear n0_ n1_ n2_ n3_; (try clear hb); (try clear hb2); (try clear hk); (try clear hi); (try clear ho0); obtain ⟨Ao29, co29, eo29⟩ := Kd.N_slice HO_7.out; subst eo29) | (go_at_call 10; (with_reducible refine (plan_Order.calls k2 _ _ l0 _ _ x7_2 t258 t259 t260 _ ?side1 ?side2 ?side3 ?side4 A26.out).mono ?_); (case side1 => repeat (first | exact (Kd.C_below HR0.out HB.out) | (with_reducible refine Kd.C_alloc ?_ _) | (with_reducible refine Kd.C_drewN ?_ _) | (with_reducible refine Kd.C_drew ?_))); (case side2 => exact HC0.out); (case side3 => repeat (first | exact (Kd.N_reads' HO_7.out).2.2 | (with_reducible refine Kd.C_alloc ?_ _) | (with_reducible refine Kd.C_drewN ?_ _) | (with_reducible refine Kd.C_drew ?_))); (case side4 => exact (Kd.N_reads' HO_7.out).2.1); rintro e w30 ⟨v261, rfl, ho0, hb⟩; have n0_ := Aside0.mk (Kd.V_elder' (by (with_reducible repeat (first | apply Kd.V_alloc | apply Kd.V_drewN | apply Kd.V_drew)); exact HO_1.out) (Kd.R_base ho0) hb); have n1_ := Aside0.mk (Kd.N_elder' (by (with_reducible repeat (first | apply Kd.N_alloc | apply Kd.N_drewN | apply Kd.N_drew)); exact HO_7.out) (Kd.R_base ho0) hb); have n2_ := Aside0.mk (Kd.R_elder' (by (with_reducible repeat (first | apply Kd.R_alloc | apply Kd.R_drewN | apply Kd.R_drew)); exact HO257.out) (Kd.R_base ho0) hb); have n3_ := Aside0.mk (Kd.R_lower (Kd.R_new' (Kd.R_newM (M := fun k_ => (w.heap.size ≤ k_)) ho0 (below_size (by repeat (first | (with_reducible first | exact HB.out | apply below_alloc | apply pw_below_drewN | apply below_drew1) | exact HB.out))) (fun k_ h_ => h_)) (Kd.R_lt (by (with_reducible repeat (first | apply Kd.R_alloc | apply Kd.R_drewN | apply Kd.R_drew)); exact HO257.out))) (below_size (by repeat (first | (with_reducible first | exact HB.out | apply below_alloc | apply pw_below_drewN | apply below_drew1) | exact HB.out)))); have n4_ := Aside0.mk (below_step (by repeat (first | (with_reducible first | exact HB.out | apply below_alloc | apply pw_below_drewN | apply below_drew1) | exact HB.out)) hb); clear HO_1; clear HO_7; clear HO257; clear HB; have HO_1 := n0_; have HO_7 := n1_; have HO257 := n2_; have HO262 := n3_; have HB := n4_; clear n0_ n1_ n2_ n3_ n4_; (try clear hb); (try clear hb2); (try clear hk); (try clear hi); (try clear ho0))); go_upto_region 10 with (first | (go_at_call 10; (with_reducible refine (plan_Order.calls k2 _ _ l0 _ _ l1 t253 t254 t255 _ ?side1 ?side2 ?side3 ?side4 A25.out).mono ?_); (case side1 => repeat (first | exact (Kd.C_below HR0.out HB.out) | (with_reducible refine Kd.C_alloc ?_ _) | (with_reducible refine Kd.C_drewN ?_ _) | (with_reducible refine Kd.C_drew ?_))); (case side2 => exact HC0.out); (case side3 => repeat (first | exact (Kd.V_reads' HO_1.out).2.2 | (with_reducible refine Kd.C_alloc ?_ _) | (with_reducible refine Kd.C_drewN ?_ _) | (with_reducible refine Kd.C_drew ?_))); (case side4 => exact (Kd.V_reads' HO_1.out).2.1); rintro e w28 ⟨v256, rfl, ho0, hb⟩; have n0_ := Aside0.mk (Kd.V_elder' (by (with_reducible repeat (first | apply Kd.V_alloc | apply Kd.V_drewN | apply Kd.V_drew)); exact HO_1.out) (Kd.R_base ho0) hb); have n1_ := Aside0.mk (Kd.N_elder' (by (with_reducible repeat (first | apply Kd.N_alloc | apply Kd.N_drewN | apply Kd.N_drew)); exact HO_7.out) (Kd.R_base ho0) hb); have n2_ := Aside0.mk (Kd.R_lower (Kd.R_newM (M := fun k_ => (w.heap.size ≤ k_)) ho0 (below_size (by repeat (first | (with_reducible first | exact HB.out | apply below_alloc | apply pw_below_drewN | apply below_drew1) | exact HB.out))) (fun k_ h_ => h_)) (below_size (by repeat (first | (with_reducible first | exact HB.out | apply below_alloc | apply pw_below_drewN | apply below_drew1) | exact HB.out)))); have n3_ := Aside0.mk (below_step (by repeat (first | (with_reducible first | exact HB.out | apply below_alloc | apply pw_below_drewN | apply below_drew1) | exact HB.out)) hb); clear HO_1; clear HO_7; clear HB; have HO_1 := n0_; have HO_7 := n1_; have HO257 := n2_; have HB := n3_; clear n0_ n1_ n2_ n3_; (try clear hb); (try clear hb2); (try clear hk); (try clear hi); (try clear ho0); obtain ⟨Ao29, co29, eo29⟩ := Kd.N_slice HO_7.out; subst eo29) | (go_at_call 10; (with_reducible refine (plan_Order.calls k2 _ _ l0 _ _ x7_2 t258 t259 t260 _ ?side1 ?side2 ?side3 ?side4 A26.out).mono ?_); (case side1 => repeat (first | exact (Kd.C_below HR0.out HB.out) | (with_reducible refine Kd.C_alloc ?_ _) | (with_reducible refine Kd.C_drewN ?_ _) | (with_reducible refine Kd.C_drew ?_))); (case side2 => exact HC0.out); (case side3 => repeat (first | exact (Kd.N_reads' HO_7.out).2.2 | (with_reducible refine Kd.C_alloc ?_ _) | (with_reducible refine Kd.C_drewN ?_ _) | (with_reducible refine Kd.C_drew ?_))); (case side4 => exact (Kd.N_reads' HO_7.out).2.1); rintro e w30 ⟨v261, rfl, ho0, hb⟩; have n0_ := Aside0.mk (Kd.V_elder' (by (with_reducible repeat (first | apply Kd.V_alloc | apply Kd.V_drewN | apply Kd.V_drew)); exact HO_1.out) (Kd.R_base ho0) hb); have n1_ := Aside0.mk (Kd.N_elder' (by (with_reducible repeat (first | apply Kd.N_alloc | apply Kd.N_drewN | apply Kd.N_drew)); exact HO_7.out) (Kd.R_base ho0) hb); have n2_ := Aside0.mk (Kd.R_elder' (by (with_reducible repeat (first | apply Kd.R_alloc | apply Kd.R_drewN | apply Kd.R_drew)); exact HO257.out) (Kd.R_base ho0) hb); have n3_ := Aside0.mk (Kd.R_lower (Kd.R_new' (Kd.R_newM (M := fun k_ => (w.heap.size ≤ k_)) ho0 (below_size (by repeat (first | (with_reducible first | exact HB.out | apply below_alloc | apply pw_below_drewN | apply below_drew1) | exact HB.out))) (fun k_ h_ => h_)) (Kd.R_lt (by (with_reducible repeat (first | apply Kd.R_alloc | apply Kd.R_drewN | apply Kd.R_drew)); exact HO257.out))) (below_size (by repeat (first | (with_reducible first | exact HB.out | apply below_alloc | apply pw_below_drewN | apply below_drew1) | exact HB.out)))); have n4_ := Aside0.mk (below_step (by repeat (first | (with_reducible first | exact HB.out | apply below_alloc | apply pw_below_drewN | apply below_drew1) | exact HB.out)) hb); clear HO_1; clear HO_7; clear HO257; clear HB; have HO_1 := n0_; have HO_7 := n1_; have HO257 := n2_; have HO262 := n3_; have HB := n4_; clear n0_ n1_ n2_ n3_ n4_; (try clear hb); (try clear hb2); (try clear hk); (try clear hi); (try clear ho0))))
              (try simp only [Act.put, List.setIfInBounds_toArray, List.set_cons_zero, List.set_cons_succ])
              go_cut [75] (fun v75 wc => ∃ (kq : Nat) (x75_26 : Bool), v75 = .bool x75_26 ∧ Aside0 (monticulelaw28_PlanTurned.j2 kq l1 x7_2 t253 t258 x75_26 = some r) ∧ Aside0 (kq ≤ k2) ∧ Aside0 (Kd.V k34 34 wc w.heap.size (fun k_ => (P1_ k_ ∨ w.heap.size ≤ k_) ∧ some k_ ≠ ((.slice Ao29 x7_2.length co29) : Value).ownBlock ∧ some k_ ≠ (v256 : Value).ownBlock ∧ some k_ ≠ (v261 : Value).ownBlock) (.slice A1 l1.length c1) l1) ∧ Aside0 (Kd.N k34 34 wc w.heap.size (fun k_ => (P1_ k_ ∨ w.heap.size ≤ k_) ∧ some k_ ≠ (v256 : Value).ownBlock ∧ some k_ ≠ (v261 : Value).ownBlock) (.slice Ao29 x7_2.length co29) x7_2) ∧ Aside0 (Kd.R (Kd.int .i64) 3 wc w.heap.size (fun k_ => (w.heap.size ≤ k_) ∧ some k_ ≠ (v261 : Value).ownBlock) v256 t253) ∧ Aside0 (Kd.R (Kd.int .i64) 3 wc w.heap.size (fun k_ => (w.heap.size ≤ k_) ∧ some k_ ≠ (v256 : Value).ownBlock) v261 t258) ∧ Aside0 (Below w.heap.size w wc))
              case first =>
                have H := HC27.out
                clear HC27
                by_cases c31 : ((t254 == 0) != (t259 == 0)) = true
                · rw [if_pos c31] at H
                  have c31b0 : ((t254 == 0) != (t259 == 0)) = true := c31
                  (try (have c31b1 : decide ((t254 == 0) = (t259 == 0)) = false := by simpa using c31))
                  (try (have c31b2 : ((t254 == 0) == (t259 == 0)) = false := by simpa using c31))
                  (try (have c31b3 : ¬ ((t254 == 0) = (t259 == 0)) := by simpa using c31))
                  clear c31
                  (first | rw [c31b0] | (simp only [i64_w, i32_w]; rw [c31b0]) | skip)
                  have H' := Aside0.mk H
                  clear H
                  go_wp2
                  repeat (go_quiet (fail); try go_wp2)
                  go_meet
                  case rel => exact ⟨_, (true), (by first | rfl | (simp; done) | (simp [*]; done)), H', ⟨by have := HJ3.out; have := HK2.out; first | omega | exact Nat.le_refl _⟩, ⟨by (with_reducible repeat (first | apply Kd.V_alloc | apply Kd.V_drewN | apply Kd.V_drew)); exact Kd.V_mono HO_1.out (fun _ hk => ⟨hk.1.1.1, ⟨hk.1.1.2, ⟨hk.1.2, hk.2⟩⟩⟩)⟩, ⟨by (with_reducible repeat (first | apply Kd.N_alloc | apply Kd.N_drewN | apply Kd.N_drew)); exact Kd.N_mono HO_7.out (fun _ hk => ⟨hk.1.1, ⟨hk.1.2, hk.2⟩⟩)⟩, ⟨by (with_reducible repeat (first | apply Kd.R_alloc | apply Kd.R_drewN | apply Kd.R_drew)); exact Kd.R_mono HO257.out (fun _ hk => ⟨hk.1.1, hk.2⟩)⟩, ⟨by (with_reducible repeat (first | apply Kd.R_alloc | apply Kd.R_drewN | apply Kd.R_drew)); exact Kd.R_mono HO262.out (fun _ hk => ⟨hk.1.1, hk.2⟩)⟩, ⟨by repeat (first | (with_reducible first | exact HB.out | apply below_alloc | apply pw_below_drewN | apply below_drew1) | exact HB.out)⟩⟩
                · rw [if_neg c31] at H
                  have c31b0 : ((t254 == 0) != (t259 == 0)) = false := by simpa using c31
                  (try (have c31b1 : decide ((t254 == 0) = (t259 == 0)) = true := by simpa using c31))
                  (try (have c31b2 : ((t254 == 0) == (t259 == 0)) = true := by simpa using c31))
                  clear c31
                  (first | rw [c31b0] | (simp only [i64_w, i32_w]; rw [c31b0]) | skip)
                  have H' := Aside0.mk H
                  clear H
                  obtain ⟨Ao32, co32, eo32⟩ := Kd.R_slice HO257.out
                  subst eo32
                  obtain ⟨Ao33, co33, eo33⟩ := Kd.R_slice HO262.out
                  subst eo33
                  go_wp2
                  repeat (go_quiet (fail); try go_wp2)
                  go_meet
                  case rel => exact ⟨_, (((t253.length : Int) != (t258.length : Int))), (by first | rfl | (simp; done) | (simp [*]; done)), H', ⟨by have := HJ3.out; have := HK2.out; first | omega | exact Nat.le_refl _⟩, ⟨by (with_reducible repeat (first | apply Kd.V_alloc | apply Kd.V_drewN | apply Kd.V_drew)); exact Kd.V_mono HO_1.out (fun _ hk => ⟨hk.1.1.1, ⟨hk.1.1.2, ⟨hk.1.2, hk.2⟩⟩⟩)⟩, ⟨by (with_reducible repeat (first | apply Kd.N_alloc | apply Kd.N_drewN | apply Kd.N_drew)); exact Kd.N_mono HO_7.out (fun _ hk => ⟨hk.1.1, ⟨hk.1.2, hk.2⟩⟩)⟩, ⟨by (with_reducible repeat (first | apply Kd.R_alloc | apply Kd.R_drewN | apply Kd.R_drew)); exact Kd.R_mono HO257.out (fun _ hk => ⟨hk.1.1, hk.2⟩)⟩, ⟨by (with_reducible repeat (first | apply Kd.R_alloc | apply Kd.R_drewN | apply Kd.R_drew)); exact Kd.R_mono HO262.out (fun _ hk => ⟨hk.1.1, hk.2⟩)⟩, ⟨by repeat (first | (with_reducible first | exact HB.out | apply below_alloc | apply pw_below_drewN | apply below_drew1) | exact HB.out)⟩⟩
              case rest =>
                clear HC27
                try clear c1
                try clear c2
                try clear p2
                try clear q2
                try clear hx2
                try clear c3
                try clear c4
                try clear c6
                try clear p6
                try clear c8
                try clear c14
                try clear c17
                try clear c17b0
                try clear c19
                try clear c19b0
                try clear c19b1
                try clear c19b2
                try clear c21
                try clear c21b0
                try clear c22
                try clear c22b0
                try clear c23
                try clear c24
                try clear p24
                try clear q24
                try clear hx24
                try clear c31
                try clear c31b0
                try clear c31b1
                try clear c31b2
                try clear hx249_0
                try clear hx249_1
                try clear hx249_2
                try clear hx249_3
                try clear p2
                try clear p249
                try clear q249
                obtain ⟨kq, x75_26, rfl, HA, HJ26, HO_1, HO_7, HO_9, HO_12, HB⟩ := hcut
                cases kq with
                | zero => exact absurd HA.out (by simp [monticulelaw28_PlanTurned.j2])
                | succ kj26 =>
                  have H := HA.out
                  clear HA
                  simp only [monticulelaw28_PlanTurned.j2] at H
                  by_cases c34 : x75_26 = true
                  · subst c34
                    have H1 : (some false) = some r := by rw [if_pos rfl] at H; exact H
                    clear H
                    have H := H1
                    clear H1
                    obtain rfl := Option.some.inj H
                    go_wp2
                    repeat (go_quiet (fail); try go_wp2)
                    go_ret
                    exact ⟨by first | rfl | (simp [errW_none, errW_some] <;> rfl) | (simp [*, errW_none, errW_some] <;> rfl), by repeat (first | (with_reducible first | exact HB.out | apply below_alloc | apply pw_below_drewN | apply below_drew1) | exact HB.out)⟩
                  · replace c34 := Bool.eq_false_iff.mpr c34
                    subst c34
                    have H1 : (monticulelaw28_PlanTurned.l1 kj26 l1 x7_2 t253 t258 0) = some r := by rw [if_neg (show ¬ (false = true) by decide)] at H; exact H
                    clear H
                    have H := H1
                    clear H1
                    have H' := Aside0.mk H
                    clear H
                    go_wp2
                    repeat (go_quiet (fail); try go_wp2)
                    go_loopg [15] kj26 (fun kq v15 w' => ∃ (x15_4 : Int), v15 = .int .i64 x15_4 ∧ Aside0 (monticulelaw28_PlanTurned.l1 kq l1 x7_2 t253 t258 x15_4 = some r) ∧ Aside0 (kq ≤ kj26) ∧ Aside0 (Kd.V k34 34 w' w.heap.size (fun k_ => (P1_ k_ ∨ w.heap.size ≤ k_) ∧ some k_ ≠ ((.slice Ao29 x7_2.length co29) : Value).ownBlock ∧ some k_ ≠ (v256 : Value).ownBlock ∧ some k_ ≠ (v261 : Value).ownBlock) (.slice A1 l1.length c1) l1) ∧ Aside0 (Kd.N k34 34 w' w.heap.size (fun k_ => (P1_ k_ ∨ w.heap.size ≤ k_) ∧ some k_ ≠ (v256 : Value).ownBlock ∧ some k_ ≠ (v261 : Value).ownBlock) (.slice Ao29 x7_2.length co29) x7_2) ∧ Aside0 (Kd.R (Kd.int .i64) 3 w' w.heap.size (fun k_ => (w.heap.size ≤ k_) ∧ some k_ ≠ (v261 : Value).ownBlock) v256 t253) ∧ Aside0 (Kd.R (Kd.int .i64) 3 w' w.heap.size (fun k_ => (w.heap.size ≤ k_) ∧ some k_ ≠ (v256 : Value).ownBlock) v261 t258) ∧ Aside0 (Below w.heap.size w w'))
                    case atStart => exact ⟨(0), (by first | rfl | (simp; done) | (simp [*]; done)), H', ⟨Nat.le_refl _⟩, ⟨by (with_reducible repeat (first | apply Kd.V_alloc | apply Kd.V_drewN | apply Kd.V_drew)); exact HO_1.out⟩, ⟨by (with_reducible repeat (first | apply Kd.N_alloc | apply Kd.N_drewN | apply Kd.N_drew)); exact HO_7.out⟩, ⟨by (with_reducible repeat (first | apply Kd.R_alloc | apply Kd.R_drewN | apply Kd.R_drew)); exact HO_9.out⟩, ⟨by (with_reducible repeat (first | apply Kd.R_alloc | apply Kd.R_drewN | apply Kd.R_drew)); exact HO_12.out⟩, ⟨by repeat (first | (with_reducible first | exact HB.out | apply below_alloc | apply pw_below_drewN | apply below_drew1) | exact HB.out)⟩⟩
                    case round =>
                      clear H'
                      try clear c1
                      try clear c2
                      try clear p2
                      try clear q2
                      try clear hx2
                      try clear c3
                      try clear c4
                      try clear c6
                      try clear p6
                      try clear c8
                      try clear c14
                      try clear c17
                      try clear c17b0
                      try clear c19
                      try clear c19b0
                      try clear c19b1
                      try clear c19b2
                      try clear c21
                      try clear c21b0
                      try clear c22
                      try clear c22b0
                      try clear c23
                      try clear c24
                      try clear p24
                      try clear q24
                      try clear hx24
                      try clear c31
                      try clear c31b0
                      try clear c31b1
                      try clear c31b2
                      try clear c34
                      try clear hx249_0
                      try clear hx249_1
                      try clear hx249_2
                      try clear hx249_3
                      try clear p2
                      try clear p24
                      try clear p249
                      try clear p6
                      try clear q2
                      try clear q24
                      try clear q249
                      obtain ⟨x15_4, rfl, HA, HK4, HO_1, HO_7, HO_9, HO_12, HB⟩ := hrel
                      cases gk with
                      | zero => exact absurd HA.out (by simp [monticulelaw28_PlanTurned.l1])
                      | succ k4 =>
                        have H := HA.out
                        clear HA
                        simp only [monticulelaw28_PlanTurned.l1] at H
                        by_cases c35 : x15_4 < (t253.length : Int)
                        · rw [if_pos c35] at H
                          have c35b0 : decide (x15_4 < (t253.length : Int)) = true := decide_eq_true c35
                          clear c35
                          by_cases c36 : 0 ≤ x15_4
                          · rw [if_pos c36] at H
                            have c36b0 : decide (0 ≤ x15_4) = true := decide_eq_true c36
                            clear c36
                            by_cases c37 : 0 ≤ (rd t253 x15_4)
                            · rw [if_pos c37] at H
                              have c37b0 : decide (0 ≤ (rd t253 x15_4)) = true := decide_eq_true c37
                              clear c37
                              by_cases c38 : (rd t253 x15_4) < (l1.length : Int)
                              · rw [if_pos c38] at H
                                have c38b0 : decide ((rd t253 x15_4) < (l1.length : Int)) = true := decide_eq_true c38
                                clear c38
                                by_cases c39 : x15_4 < (t258.length : Int)
                                · rw [if_pos c39] at H
                                  have c39b0 : decide (x15_4 < (t258.length : Int)) = true := decide_eq_true c39
                                  clear c39
                                  by_cases c40 : 0 ≤ (rd t258 x15_4)
                                  · rw [if_pos c40] at H
                                    have c40b0 : decide (0 ≤ (rd t258 x15_4)) = true := decide_eq_true c40
                                    clear c40
                                    by_cases c41 : (rd t258 x15_4) < (x7_2.length : Int)
                                    · rw [if_pos c41] at H
                                      have c41b0 : decide ((rd t258 x15_4) < (x7_2.length : Int)) = true := decide_eq_true c41
                                      clear c41
                                      by_cases c42 : ((rd_T34 l1 (rd t253 x15_4)).f0).toList = ((rd_T34 x7_2 (rd t258 x15_4)).f0).toList
                                      · rw [if_pos c42] at H
                                        have c42b0 : (((rd_T34 l1 (rd t253 x15_4)).f0).toList == ((rd_T34 x7_2 (rd t258 x15_4)).f0).toList) = true := beq_iff_eq.mpr c42
                                        have c42b1 : (((rd_T34 l1 (rd t253 x15_4)).f0).toList != ((rd_T34 x7_2 (rd t258 x15_4)).f0).toList) = false := bne_eq_false_iff_eq.mpr c42
                                        clear c42
                                        have H' := Aside0.mk H
                                        clear H
                                        obtain ⟨Ao43, co43, eo43⟩ := Kd.R_slice HO_9.out
                                        subst eo43
                                        have p263 : 0 ≤ (x15_4 : Int) := of_decide_eq_true (by first | (with_reducible assumption) | assumption)
                                        have q263 : x15_4 < (t253.length : Int) := of_decide_eq_true (by first | (with_reducible assumption) | assumption)
                                        obtain ⟨ad263, e263, hx263_0⟩ := Kd.at_int (Kd.R_reads' HO_9.out).2.2 x15_4 p263 q263
                                        cases e263
                                        replace p263 := eq_true p263
                                        replace q263 := eq_true q263
                                        have p264 : 0 ≤ ((rd t253 x15_4) : Int) := of_decide_eq_true (by first | (with_reducible assumption) | assumption)
                                        have q264 : (rd t253 x15_4) < (l1.length : Int) := of_decide_eq_true (by first | (with_reducible assumption) | assumption)
                                        obtain ⟨ad264, A264_2, c264_2, A264_3, c264_3, e264, hx264_0, hx264_1, hx264_2, hx264_3, hl264_2, hi264_2, hl264_3, hi264_3⟩ := at_T34 (Kd.V_reads' HO_1.out).2.2 (rd t253 x15_4) p264 q264
                                        cases e264
                                        obtain ⟨ce264, hce264, hMe264, hcc264⟩ := Kd.V_get HO_1.out z34 (rd t253 x15_4) p264 (by first | exact q264 | exact of_decide_eq_true (by first | (with_reducible assumption) | assumption) | (have e_ := (Kd.V_reads' HO_1.out).1; omega))
                                        obtain ⟨ua264_2, uc264_2, ua264_3, uc264_3, rfl, ul264_2, ge264_2, ul264_3, ge264_3⟩ := k34_openF hMe264
                                        have hv264_2 := hcc264 2 _ rfl
                                        rw [add_field _ _ 2 (by omega)] at hv264_2
                                        replace hv264_2 := Option.some.inj (hv264_2.symm.trans hx264_2)
                                        injection hv264_2 with hva_ hvn_ hvc_
                                        rw [hva_] at ge264_2
                                        rw [hvc_] at ul264_2
                                        have HL264_2 := Aside0.mk (show Kd.V Kd.string 9 _ w.heap.size _ _ ((rd_T34 l1 (rd t253 x15_4)).f2) from Kd.V_mk ul264_2 ge264_2)
                                        clear hva_ hvn_ hvc_ ge264_2 ul264_2
                                        have hv264_3 := hcc264 3 _ rfl
                                        rw [add_field _ _ 3 (by omega)] at hv264_3
                                        replace hv264_3 := Option.some.inj (hv264_3.symm.trans hx264_3)
                                        injection hv264_3 with hva_ hvn_ hvc_
                                        rw [hva_] at ge264_3
                                        rw [hvc_] at ul264_3
                                        have HL264_3 := Aside0.mk (show Kd.V k68 68 _ w.heap.size _ _ ((rd_T34 l1 (rd t253 x15_4)).f3) from Kd.V_mk ul264_3 ge264_3)
                                        clear hva_ hvn_ hvc_ ge264_3 ul264_3
                                        clear hcc264 hce264
                                        have HR264_2 := Aside0.mk hi264_2
                                        have HC264_2 := Aside0.mk hl264_2
                                        clear hi264_2 hl264_2
                                        have HR264_3 := Aside0.mk hi264_3
                                        have HC264_3 := Aside0.mk hl264_3
                                        clear hi264_3 hl264_3
                                        replace p264 := eq_true p264
                                        replace q264 := eq_true q264
                                        obtain ⟨Ao44, co44, eo44⟩ := Kd.R_slice HO_12.out
                                        subst eo44
                                        have p265 : 0 ≤ (x15_4 : Int) := of_decide_eq_true (by first | (with_reducible assumption) | assumption)
                                        have q265 : x15_4 < (t258.length : Int) := of_decide_eq_true (by first | (with_reducible assumption) | assumption)
                                        obtain ⟨ad265, e265, hx265_0⟩ := Kd.at_int (Kd.R_reads' HO_12.out).2.2 x15_4 p265 q265
                                        cases e265
                                        replace p265 := eq_true p265
                                        replace q265 := eq_true q265
                                        have p266 : 0 ≤ ((rd t258 x15_4) : Int) := of_decide_eq_true (by first | (with_reducible assumption) | assumption)
                                        have q266 : (rd t258 x15_4) < (x7_2.length : Int) := of_decide_eq_true (by first | (with_reducible assumption) | assumption)
                                        obtain ⟨ad266, A266_2, c266_2, A266_3, c266_3, e266, hx266_0, hx266_1, hx266_2, hx266_3, hl266_2, hi266_2, hl266_3, hi266_3⟩ := at_T34 (Kd.N_reads' HO_7.out).2.2 (rd t258 x15_4) p266 q266
                                        cases e266
                                        obtain ⟨ce266, hce266, hMe266, hcc266⟩ := Kd.N_get HO_7.out z34 (rd t258 x15_4) p266 (by first | exact q266 | exact of_decide_eq_true (by first | (with_reducible assumption) | assumption) | (have e_ := (Kd.N_reads' HO_7.out).1; omega))
                                        obtain ⟨ua266_2, uc266_2, ua266_3, uc266_3, rfl, ul266_2, ge266_2, ul266_3, ge266_3⟩ := k34_openF hMe266
                                        have hv266_2 := hcc266 2 _ rfl
                                        rw [add_field _ _ 2 (by omega)] at hv266_2
                                        replace hv266_2 := Option.some.inj (hv266_2.symm.trans hx266_2)
                                        injection hv266_2 with hva_ hvn_ hvc_
                                        rw [hva_] at ge266_2
                                        rw [hvc_] at ul266_2
                                        have HL266_2 := Aside0.mk (show Kd.V Kd.string 9 _ w.heap.size _ _ ((rd_T34 x7_2 (rd t258 x15_4)).f2) from Kd.V_mk ul266_2 ge266_2)
                                        clear hva_ hvn_ hvc_ ge266_2 ul266_2
                                        have hv266_3 := hcc266 3 _ rfl
                                        rw [add_field _ _ 3 (by omega)] at hv266_3
                                        replace hv266_3 := Option.some.inj (hv266_3.symm.trans hx266_3)
                                        injection hv266_3 with hva_ hvn_ hvc_
                                        rw [hva_] at ge266_3
                                        rw [hvc_] at ul266_3
                                        have HL266_3 := Aside0.mk (show Kd.V k68 68 _ w.heap.size _ _ ((rd_T34 x7_2 (rd t258 x15_4)).f3) from Kd.V_mk ul266_3 ge266_3)
                                        clear hva_ hvn_ hvc_ ge266_3 ul266_3
                                        clear hcc266 hce266
                                        have HR266_2 := Aside0.mk hi266_2
                                        have HC266_2 := Aside0.mk hl266_2
                                        clear hi266_2 hl266_2
                                        have HR266_3 := Aside0.mk hi266_3
                                        have HC266_3 := Aside0.mk hl266_3
                                        clear hi266_3 hl266_3
                                        replace p266 := eq_true p266
                                        replace q266 := eq_true q266
                                        go_wp2
                                        repeat (go_quiet (fail); try go_wp2)
                                        go_roundg k4
                                        case measure => have := HJ3.out; have := HK2.out; have := HJ26.out; have := HK4.out; omega
                                        case rel => exact ⟨(wrap64 (x15_4 + 1)), (by first | rfl | (simp; done) | (simp [*]; done)), H', ⟨by have := HJ3.out; have := HK2.out; have := HJ26.out; have := HK4.out; omega⟩, ⟨by (with_reducible repeat (first | apply Kd.V_alloc | apply Kd.V_drewN | apply Kd.V_drew)); exact HO_1.out⟩, ⟨by (with_reducible repeat (first | apply Kd.N_alloc | apply Kd.N_drewN | apply Kd.N_drew)); exact HO_7.out⟩, ⟨by (with_reducible repeat (first | apply Kd.R_alloc | apply Kd.R_drewN | apply Kd.R_drew)); exact HO_9.out⟩, ⟨by (with_reducible repeat (first | apply Kd.R_alloc | apply Kd.R_drewN | apply Kd.R_drew)); exact HO_12.out⟩, ⟨by repeat (first | (with_reducible first | exact HB.out | apply below_alloc | apply pw_below_drewN | apply below_drew1) | exact HB.out)⟩⟩
                                      · rw [if_neg c42] at H
                                        have c42b0 : (((rd_T34 l1 (rd t253 x15_4)).f0).toList == ((rd_T34 x7_2 (rd t258 x15_4)).f0).toList) = false := beq_eq_false_iff_ne.mpr c42
                                        have c42b1 : (((rd_T34 l1 (rd t253 x15_4)).f0).toList != ((rd_T34 x7_2 (rd t258 x15_4)).f0).toList) = true := bne_iff_ne.mpr c42
                                        obtain rfl := Option.some.inj H
                                        obtain ⟨Ao45, co45, eo45⟩ := Kd.R_slice HO_9.out
                                        subst eo45
                                        have p263 : 0 ≤ (x15_4 : Int) := of_decide_eq_true (by first | (with_reducible assumption) | assumption)
                                        have q263 : x15_4 < (t253.length : Int) := of_decide_eq_true (by first | (with_reducible assumption) | assumption)
                                        obtain ⟨ad263, e263, hx263_0⟩ := Kd.at_int (Kd.R_reads' HO_9.out).2.2 x15_4 p263 q263
                                        cases e263
                                        replace p263 := eq_true p263
                                        replace q263 := eq_true q263
                                        have p264 : 0 ≤ ((rd t253 x15_4) : Int) := of_decide_eq_true (by first | (with_reducible assumption) | assumption)
                                        have q264 : (rd t253 x15_4) < (l1.length : Int) := of_decide_eq_true (by first | (with_reducible assumption) | assumption)
                                        obtain ⟨ad264, A264_2, c264_2, A264_3, c264_3, e264, hx264_0, hx264_1, hx264_2, hx264_3, hl264_2, hi264_2, hl264_3, hi264_3⟩ := at_T34 (Kd.V_reads' HO_1.out).2.2 (rd t253 x15_4) p264 q264
                                        cases e264
                                        obtain ⟨ce264, hce264, hMe264, hcc264⟩ := Kd.V_get HO_1.out z34 (rd t253 x15_4) p264 (by first | exact q264 | exact of_decide_eq_true (by first | (with_reducible assumption) | assumption) | (have e_ := (Kd.V_reads' HO_1.out).1; omega))
                                        obtain ⟨ua264_2, uc264_2, ua264_3, uc264_3, rfl, ul264_2, ge264_2, ul264_3, ge264_3⟩ := k34_openF hMe264
                                        have hv264_2 := hcc264 2 _ rfl
                                        rw [add_field _ _ 2 (by omega)] at hv264_2
                                        replace hv264_2 := Option.some.inj (hv264_2.symm.trans hx264_2)
                                        injection hv264_2 with hva_ hvn_ hvc_
                                        rw [hva_] at ge264_2
                                        rw [hvc_] at ul264_2
                                        have HL264_2 := Aside0.mk (show Kd.V Kd.string 9 _ w.heap.size _ _ ((rd_T34 l1 (rd t253 x15_4)).f2) from Kd.V_mk ul264_2 ge264_2)
                                        clear hva_ hvn_ hvc_ ge264_2 ul264_2
                                        have hv264_3 := hcc264 3 _ rfl
                                        rw [add_field _ _ 3 (by omega)] at hv264_3
                                        replace hv264_3 := Option.some.inj (hv264_3.symm.trans hx264_3)
                                        injection hv264_3 with hva_ hvn_ hvc_
                                        rw [hva_] at ge264_3
                                        rw [hvc_] at ul264_3
                                        have HL264_3 := Aside0.mk (show Kd.V k68 68 _ w.heap.size _ _ ((rd_T34 l1 (rd t253 x15_4)).f3) from Kd.V_mk ul264_3 ge264_3)
                                        clear hva_ hvn_ hvc_ ge264_3 ul264_3
                                        clear hcc264 hce264
                                        have HR264_2 := Aside0.mk hi264_2
                                        have HC264_2 := Aside0.mk hl264_2
                                        clear hi264_2 hl264_2
                                        have HR264_3 := Aside0.mk hi264_3
                                        have HC264_3 := Aside0.mk hl264_3
                                        clear hi264_3 hl264_3
                                        replace p264 := eq_true p264
                                        replace q264 := eq_true q264
                                        obtain ⟨Ao46, co46, eo46⟩ := Kd.R_slice HO_12.out
                                        subst eo46
                                        have p265 : 0 ≤ (x15_4 : Int) := of_decide_eq_true (by first | (with_reducible assumption) | assumption)
                                        have q265 : x15_4 < (t258.length : Int) := of_decide_eq_true (by first | (with_reducible assumption) | assumption)
                                        obtain ⟨ad265, e265, hx265_0⟩ := Kd.at_int (Kd.R_reads' HO_12.out).2.2 x15_4 p265 q265
                                        cases e265
                                        replace p265 := eq_true p265
                                        replace q265 := eq_true q265
                                        have p266 : 0 ≤ ((rd t258 x15_4) : Int) := of_decide_eq_true (by first | (with_reducible assumption) | assumption)
                                        have q266 : (rd t258 x15_4) < (x7_2.length : Int) := of_decide_eq_true (by first | (with_reducible assumption) | assumption)
                                        obtain ⟨ad266, A266_2, c266_2, A266_3, c266_3, e266, hx266_0, hx266_1, hx266_2, hx266_3, hl266_2, hi266_2, hl266_3, hi266_3⟩ := at_T34 (Kd.N_reads' HO_7.out).2.2 (rd t258 x15_4) p266 q266
                                        cases e266
                                        obtain ⟨ce266, hce266, hMe266, hcc266⟩ := Kd.N_get HO_7.out z34 (rd t258 x15_4) p266 (by first | exact q266 | exact of_decide_eq_true (by first | (with_reducible assumption) | assumption) | (have e_ := (Kd.N_reads' HO_7.out).1; omega))
                                        obtain ⟨ua266_2, uc266_2, ua266_3, uc266_3, rfl, ul266_2, ge266_2, ul266_3, ge266_3⟩ := k34_openF hMe266
                                        have hv266_2 := hcc266 2 _ rfl
                                        rw [add_field _ _ 2 (by omega)] at hv266_2
                                        replace hv266_2 := Option.some.inj (hv266_2.symm.trans hx266_2)
                                        injection hv266_2 with hva_ hvn_ hvc_
                                        rw [hva_] at ge266_2
                                        rw [hvc_] at ul266_2
                                        have HL266_2 := Aside0.mk (show Kd.V Kd.string 9 _ w.heap.size _ _ ((rd_T34 x7_2 (rd t258 x15_4)).f2) from Kd.V_mk ul266_2 ge266_2)
                                        clear hva_ hvn_ hvc_ ge266_2 ul266_2
                                        have hv266_3 := hcc266 3 _ rfl
                                        rw [add_field _ _ 3 (by omega)] at hv266_3
                                        replace hv266_3 := Option.some.inj (hv266_3.symm.trans hx266_3)
                                        injection hv266_3 with hva_ hvn_ hvc_
                                        rw [hva_] at ge266_3
                                        rw [hvc_] at ul266_3
                                        have HL266_3 := Aside0.mk (show Kd.V k68 68 _ w.heap.size _ _ ((rd_T34 x7_2 (rd t258 x15_4)).f3) from Kd.V_mk ul266_3 ge266_3)
                                        clear hva_ hvn_ hvc_ ge266_3 ul266_3
                                        clear hcc266 hce266
                                        have HR266_2 := Aside0.mk hi266_2
                                        have HC266_2 := Aside0.mk hl266_2
                                        clear hi266_2 hl266_2
                                        have HR266_3 := Aside0.mk hi266_3
                                        have HC266_3 := Aside0.mk hl266_3
                                        clear hi266_3 hl266_3
                                        replace p266 := eq_true p266
                                        replace q266 := eq_true q266
                                        go_wp2
                                        repeat (go_quiet (fail); try go_wp2)
                                        go_ret
                                        exact ⟨by first | rfl | (simp [errW_none, errW_some] <;> rfl) | (simp [*, errW_none, errW_some] <;> rfl), by repeat (first | (with_reducible first | exact HB.out | apply below_alloc | apply pw_below_drewN | apply below_drew1) | exact HB.out)⟩
                                    · rw [if_neg c41] at H
                                      exact absurd H (by simp)
                                  · rw [if_neg c40] at H
                                    exact absurd H (by simp)
                                · rw [if_neg c39] at H
                                  exact absurd H (by simp)
                              · rw [if_neg c38] at H
                                exact absurd H (by simp)
                            · rw [if_neg c37] at H
                              exact absurd H (by simp)
                          · rw [if_neg c36] at H
                            exact absurd H (by simp)
                        · rw [if_neg c35] at H
                          have c35b0 : decide (x15_4 < (t253.length : Int)) = false := decide_eq_false c35
                          clear c35
                          obtain rfl := Option.some.inj H
                          obtain ⟨Ao47, co47, eo47⟩ := Kd.R_slice HO_9.out
                          subst eo47
                          go_wp2
                          repeat (go_quiet (fail); try go_wp2)
                          go_ret
                          exact ⟨by first | rfl | (simp [errW_none, errW_some] <;> rfl) | (simp [*, errW_none, errW_some] <;> rfl), by repeat (first | (with_reducible first | exact HB.out | apply below_alloc | apply pw_below_drewN | apply below_drew1) | exact HB.out)⟩

end Go.Proofs.YtllgcnckaodjkaaDoor.Q
