-- Printed for this claim by a program of the session's own over the kit's printer; Lean checks it.
import Derived.Test.YtllgcnckaodjkaaDoorQ0
import Derived.Test.YtllgcnckaodjkaaDoorQ3
import Derived.Test.YtllgcnckaodjkaaDoorQC
import Derived.Test.YtllgcnckaodjkaaDoorQ5
import Derived.Test.YtllgcnckaodjkaaDoorMOrd
namespace Go.Proofs.YtllgcnckaodjkaaDoor.Q
open Go.RowKit Go.Proofs.YtllgcnckaodjkaaDoorW.PrintWords Go.Proofs.YtllgcnckaodjkaaDoorW.PrintLast Go.Proofs.YtllgcnckaodjkaaDoorW.PrintMore
attribute [local go_sem] max2_int min2_int max_two min_two max_three min_three max_four min_four   -- for this text's walks alone
set_option linter.unusedVariables false
set_option linter.unusedSimpArgs false

/-! ### plMore: function 5 -/
mutual
def plMore.j0 : Nat → List ByteArray → List (S34) → ByteArray → Bool → Option (Bool)
  | 0, _, _, _, _ => none
  | k + 1, x0, x1, x2, x33 => if x33 = true then ((monticulelaw28_awake.f k).bind fun t283 => (some t283)) else (plMore.l0 k x0 x1 x2 0)
def plMore.l0 : Nat → List ByteArray → List (S34) → ByteArray → Int → Option (Bool)
  | 0, _, _, _, _ => none
  | k + 1, x0, x1, x2, x7 => if x7 < (x1.length : Int) then (if 0 ≤ x7 then (if ((rd_T34 x1 x7).f0).toList = x2.toList then (some true) else ((monticuleref06_In.f k ((rd_T34 x1 x7).f2) x2).bind fun t286 => (if t286 = true then (some true) else (plMore.l0 k x0 x1 x2 (wrap64 (x7 + 1)))))) else (none)) else ((plan_Order.f k x0 x1).bind fun bt287 => ((some (([] : List (S34)) : List (S34))).bind fun y292 => (if y292.length + x1.length < 1954687338268 then ((some (y292 ++ x1 : List (S34))).bind fun y295 => (if y295.length < 1954687338268 then ((plan_Order.f k x0 (y295 ++ [(⟨x2, 1, ([] : List ByteArray), ([] : List (S68))⟩ : S34)])).bind fun bt301 => ((monticuleref06_Class.f k x2).bind fun t306 => (if t306 = true then (if bt287.2.1 = bt301.2.1 then (plMore.j2 k x1 bt287.1 bt287.2.1 bt301.1 bt301.2.1 (bt287.2.1 != 0)) else (plMore.j2 k x1 bt287.1 bt287.2.1 bt301.1 bt301.2.1 true)) else (if bt287.2.1 = 0 then (if bt301.2.1 = 2 then (some (bt301.2.2.toList == x2.toList)) else (some false)) else (if bt301.2.1 = 0 then (if bt301.2.1 = 2 then (some (bt301.2.2.toList == x2.toList)) else (some false)) else (some true)))))) else (none))) else (none))))
def plMore.j2 : Nat → List (S34) → List Int → Int → List Int → Int → Bool → Option (Bool)
  | 0, _, _, _, _, _, _ => none
  | k + 1, x1, x8, x9, x12, x13, x102 => if x102 = true then (some (x9 == x13)) else (plMore.l1 k x1 x8 x12 0 0)
def plMore.l1 : Nat → List (S34) → List Int → List Int → Int → Int → Option (Bool)
  | 0, _, _, _, _, _ => none
  | k + 1, x1, x8, x12, x15, x16 => if x16 < (x12.length : Int) then (if 0 ≤ x16 then (if (rd x12 x16) = (x1.length : Int) then (plMore.l1 k x1 x8 x12 x15 (wrap64 (x16 + 1))) else (if x15 ≥ (x8.length : Int) then (some false) else (if 0 ≤ x15 then (if x15 < (x8.length : Int) then (if (rd x8 x15) = (rd x12 x16) then (plMore.l1 k x1 x8 x12 (wrap64 (x15 + 1)) (wrap64 (x16 + 1))) else (some false)) else (none)) else (none)))) else (none)) else (if x15 = (x8.length : Int) then (some ((x12.length : Int) == (wrap64 ((x8.length : Int) + 1)))) else (some false))
end
def plMore.f (k : Nat) (l0 : List ByteArray) (l1 : List (S34)) (a2 : ByteArray) : Option (Bool) := (monticulelaw28_awake.f k).bind fun t280 => (if t280 = true then ((monticulelaw28_few.f k l0).bind fun t281 => (if t281 = true then ((monticuleref28_Few.f k l1 7).bind fun t282 => (if t282 = true then (plMore.j0 k l0 l1 a2 (decide ((a2.size : Int) > 60))) else (plMore.j0 k l0 l1 a2 true))) else (plMore.j0 k l0 l1 a2 true))) else (plMore.j0 k l0 l1 a2 true))
set_option maxHeartbeats 8000000 in
set_option maxRecDepth 100000 in
theorem plMore.calls (k : Nat) (A0 : Option Addr) (c0 : Nat) (l0 : List ByteArray) (P1_ : Nat → Prop) (A1 : Option Addr) (c1 : Nat) (l1 : List (S34)) (a2 : ByteArray) (r : Bool) (w : World) (hr0 : Kd.C Kd.string w A0 l0.length l0) (hc0 : l0.length ≤ c0) (hs1 : Kd.V k34 34 w w.heap.size (fun k_ => P1_ k_) (.slice A1 l1.length c1) l1) (h : plMore.f k l0 l1 a2 = some r) :
    Calls Tryd.prog 5 #[.slice A0 l0.length c0, .slice A1 l1.length c1, .string a2] w fun e w' => e = .returned (.bool r) ∧ Below w.heap.size w w' := by
  have hu34 := Tryd.underlying34
  have HR0 := Aside0.mk hr0
  have HC0 := Aside0.mk hc0
  clear hr0 hc0
  have HO1 := Aside0.mk (show Kd.V k34 34 w w.heap.size (fun k_ => (P1_ k_ ∨ w.heap.size ≤ k_)) (.slice A1 l1.length c1) l1 from Kd.V_mono hs1 (fun k_ hk => .inl hk))
  have HB := Aside0.mk (Below.refl w.heap.size w)
  have H : ((monticulelaw28_awake.f k).bind fun t280 => (if t280 = true then ((monticulelaw28_few.f k l0).bind fun t281 => (if t281 = true then ((monticuleref28_Few.f k l1 7).bind fun t282 => (if t282 = true then (plMore.j0 k l0 l1 a2 (decide ((a2.size : Int) > 60))) else (plMore.j0 k l0 l1 a2 true))) else (plMore.j0 k l0 l1 a2 true))) else (plMore.j0 k l0 l1 a2 true))) = some r := h
  clear h
  have HC4 := Aside0.mk H
  clear H
  go_enter Tryd.func5, Tryd.ntmps5
  go_upto_region 1 with (fail)
  repeat (go_quiet (fail); go_upto_region 1 with (fail))
  go_cut [33] (fun v33 wc => ∃ (kq : Nat) (x33_3 : Bool), v33 = .bool x33_3 ∧ Aside0 (plMore.j0 kq l0 l1 a2 x33_3 = some r) ∧ Aside0 (kq ≤ k) ∧ Aside0 (Kd.V k34 34 wc w.heap.size (fun k_ => (P1_ k_ ∨ w.heap.size ≤ k_)) (.slice A1 l1.length c1) l1) ∧ Aside0 (Below w.heap.size w wc))
  case first =>
    have H := HC4.out
    clear HC4
    replace H := Option.bind_eq_some_iff.mp H
    obtain ⟨t280, A50, H⟩ := H
    replace H : (if t280 = true then ((monticulelaw28_few.f k l0).bind fun t281 => (if t281 = true then ((monticuleref28_Few.f k l1 7).bind fun t282 => (if t282 = true then (plMore.j0 k l0 l1 a2 (decide ((a2.size : Int) > 60))) else (plMore.j0 k l0 l1 a2 true))) else (plMore.j0 k l0 l1 a2 true))) else (plMore.j0 k l0 l1 a2 true)) = some r := H
    have A5 := Aside0.mk A50
    clear A50
    by_cases c6 : t280 = true
    · subst c6
      have H1 : ((monticulelaw28_few.f k l0).bind fun t281 => (if t281 = true then ((monticuleref28_Few.f k l1 7).bind fun t282 => (if t282 = true then (plMore.j0 k l0 l1 a2 (decide ((a2.size : Int) > 60))) else (plMore.j0 k l0 l1 a2 true))) else (plMore.j0 k l0 l1 a2 true))) = some r := by rw [if_pos rfl] at H; exact H
      clear H
      have H := H1
      clear H1
      replace H := Option.bind_eq_some_iff.mp H
      obtain ⟨t281, A70, H⟩ := H
      replace H : (if t281 = true then ((monticuleref28_Few.f k l1 7).bind fun t282 => (if t282 = true then (plMore.j0 k l0 l1 a2 (decide ((a2.size : Int) > 60))) else (plMore.j0 k l0 l1 a2 true))) else (plMore.j0 k l0 l1 a2 true)) = some r := H
      have A7 := Aside0.mk A70
      clear A70
      by_cases c8 : t281 = true
      · subst c8
        have H1 : ((monticuleref28_Few.f k l1 7).bind fun t282 => (if t282 = true then (plMore.j0 k l0 l1 a2 (decide ((a2.size : Int) > 60))) else (plMore.j0 k l0 l1 a2 true))) = some r := by rw [if_pos rfl] at H; exact H
        clear H
        have H := H1
        clear H1
        replace H := Option.bind_eq_some_iff.mp H
        obtain ⟨t282, A90, H⟩ := H
        replace H : (if t282 = true then (plMore.j0 k l0 l1 a2 (decide ((a2.size : Int) > 60))) else (plMore.j0 k l0 l1 a2 true)) = some r := H
        have A9 := Aside0.mk A90
        clear A90
        by_cases c10 : t282 = true
        · subst c10
          have H1 : (plMore.j0 k l0 l1 a2 (decide ((a2.size : Int) > 60))) = some r := by rw [if_pos rfl] at H; exact H
          clear H
          have H := H1
          clear H1
          have H' := Aside0.mk H
          clear H
          go_wp2_with (first | (go_at_call 7; (with_reducible refine (monticulelaw28_awake.calls k  true _ A5.out).mono ?_); rintro e w11 ⟨rfl, hb⟩; have n0_ := Aside0.mk (Kd.V_below (by (with_reducible repeat (first | apply Kd.V_alloc | apply Kd.V_drewN | apply Kd.V_drew)); exact HO1.out) hb); have n1_ := Aside0.mk (below_step (by repeat (first | (with_reducible first | exact HB.out | apply below_alloc | apply pw_below_drewN | apply below_drew1) | exact HB.out)) hb); clear HO1; clear HB; have HO1 := n0_; have HB := n1_; clear n0_ n1_; (try clear hb); (try clear hb2); (try clear hk); (try clear hi)) | (go_at_call 8; (with_reducible refine (monticulelaw28_few.calls k _ _ l0 true _ ?side1 ?side2 A7.out).mono ?_); (case side1 => repeat (first | exact (Kd.C_below HR0.out HB.out) | (with_reducible refine Kd.C_alloc ?_ _) | (with_reducible refine Kd.C_drewN ?_ _) | (with_reducible refine Kd.C_drew ?_))); (case side2 => exact HC0.out); rintro e w' ⟨rfl, ⟨nd, rfl⟩⟩; (try first | exact ⟨rfl, _, World.drewN_drewN _ _ _⟩ | exact ⟨rfl, _, Eq.trans (World.drewN_drewN _ _ _) (congrArg (World.drewN _) (Nat.add_assoc _ _ _))⟩)) | (go_at_call 9; (with_reducible refine (monticuleref28_Few.calls k _ _ l1 7 true _ ?side1 ?side2 A9.out).mono ?_); (case side1 => repeat (first | exact (Kd.V_reads' HO1.out).2.2 | (with_reducible refine Kd.C_alloc ?_ _) | (with_reducible refine Kd.C_drewN ?_ _) | (with_reducible refine Kd.C_drew ?_))); (case side2 => exact (Kd.V_reads' HO1.out).2.1); rintro e w12 ⟨rfl, hb⟩; have n0_ := Aside0.mk (Kd.V_below (by (with_reducible repeat (first | apply Kd.V_alloc | apply Kd.V_drewN | apply Kd.V_drew)); exact HO1.out) hb); have n1_ := Aside0.mk (below_step (by repeat (first | (with_reducible first | exact HB.out | apply below_alloc | apply pw_below_drewN | apply below_drew1) | exact HB.out)) hb); clear HO1; clear HB; have HO1 := n0_; have HB := n1_; clear n0_ n1_; (try clear hb); (try clear hb2); (try clear hk); (try clear hi)))
          go_meet
          case rel => exact ⟨_, (decide ((a2.size : Int) > 60)), (by first | rfl | (simp; done) | (simp [*]; done)), H', ⟨by first | omega | exact Nat.le_refl _⟩, ⟨by (with_reducible repeat (first | apply Kd.V_alloc | apply Kd.V_drewN | apply Kd.V_drew)); exact HO1.out⟩, ⟨by repeat (first | (with_reducible first | exact HB.out | apply below_alloc | apply pw_below_drewN | apply below_drew1) | exact HB.out)⟩⟩
        · replace c10 := Bool.eq_false_iff.mpr c10
          subst c10
          have H1 : (plMore.j0 k l0 l1 a2 true) = some r := by rw [if_neg (show ¬ (false = true) by decide)] at H; exact H
          clear H
          have H := H1
          clear H1
          have H' := Aside0.mk H
          clear H
          go_wp2_with (first | (go_at_call 7; (with_reducible refine (monticulelaw28_awake.calls k  true _ A5.out).mono ?_); rintro e w13 ⟨rfl, hb⟩; have n0_ := Aside0.mk (Kd.V_below (by (with_reducible repeat (first | apply Kd.V_alloc | apply Kd.V_drewN | apply Kd.V_drew)); exact HO1.out) hb); have n1_ := Aside0.mk (below_step (by repeat (first | (with_reducible first | exact HB.out | apply below_alloc | apply pw_below_drewN | apply below_drew1) | exact HB.out)) hb); clear HO1; clear HB; have HO1 := n0_; have HB := n1_; clear n0_ n1_; (try clear hb); (try clear hb2); (try clear hk); (try clear hi)) | (go_at_call 8; (with_reducible refine (monticulelaw28_few.calls k _ _ l0 true _ ?side1 ?side2 A7.out).mono ?_); (case side1 => repeat (first | exact (Kd.C_below HR0.out HB.out) | (with_reducible refine Kd.C_alloc ?_ _) | (with_reducible refine Kd.C_drewN ?_ _) | (with_reducible refine Kd.C_drew ?_))); (case side2 => exact HC0.out); rintro e w' ⟨rfl, ⟨nd, rfl⟩⟩; (try first | exact ⟨rfl, _, World.drewN_drewN _ _ _⟩ | exact ⟨rfl, _, Eq.trans (World.drewN_drewN _ _ _) (congrArg (World.drewN _) (Nat.add_assoc _ _ _))⟩)) | (go_at_call 9; (with_reducible refine (monticuleref28_Few.calls k _ _ l1 7 false _ ?side1 ?side2 A9.out).mono ?_); (case side1 => repeat (first | exact (Kd.V_reads' HO1.out).2.2 | (with_reducible refine Kd.C_alloc ?_ _) | (with_reducible refine Kd.C_drewN ?_ _) | (with_reducible refine Kd.C_drew ?_))); (case side2 => exact (Kd.V_reads' HO1.out).2.1); rintro e w14 ⟨rfl, hb⟩; have n0_ := Aside0.mk (Kd.V_below (by (with_reducible repeat (first | apply Kd.V_alloc | apply Kd.V_drewN | apply Kd.V_drew)); exact HO1.out) hb); have n1_ := Aside0.mk (below_step (by repeat (first | (with_reducible first | exact HB.out | apply below_alloc | apply pw_below_drewN | apply below_drew1) | exact HB.out)) hb); clear HO1; clear HB; have HO1 := n0_; have HB := n1_; clear n0_ n1_; (try clear hb); (try clear hb2); (try clear hk); (try clear hi)))
          go_meet
          case rel => exact ⟨_, (true), (by first | rfl | (simp; done) | (simp [*]; done)), H', ⟨by first | omega | exact Nat.le_refl _⟩, ⟨by (with_reducible repeat (first | apply Kd.V_alloc | apply Kd.V_drewN | apply Kd.V_drew)); exact HO1.out⟩, ⟨by repeat (first | (with_reducible first | exact HB.out | apply below_alloc | apply pw_below_drewN | apply below_drew1) | exact HB.out)⟩⟩
      · replace c8 := Bool.eq_false_iff.mpr c8
        subst c8
        have H1 : (plMore.j0 k l0 l1 a2 true) = some r := by rw [if_neg (show ¬ (false = true) by decide)] at H; exact H
        clear H
        have H := H1
        clear H1
        have H' := Aside0.mk H
        clear H
        go_wp2_with (first | (go_at_call 7; (with_reducible refine (monticulelaw28_awake.calls k  true _ A5.out).mono ?_); rintro e w15 ⟨rfl, hb⟩; have n0_ := Aside0.mk (Kd.V_below (by (with_reducible repeat (first | apply Kd.V_alloc | apply Kd.V_drewN | apply Kd.V_drew)); exact HO1.out) hb); have n1_ := Aside0.mk (below_step (by repeat (first | (with_reducible first | exact HB.out | apply below_alloc | apply pw_below_drewN | apply below_drew1) | exact HB.out)) hb); clear HO1; clear HB; have HO1 := n0_; have HB := n1_; clear n0_ n1_; (try clear hb); (try clear hb2); (try clear hk); (try clear hi)) | (go_at_call 8; (with_reducible refine (monticulelaw28_few.calls k _ _ l0 false _ ?side1 ?side2 A7.out).mono ?_); (case side1 => repeat (first | exact (Kd.C_below HR0.out HB.out) | (with_reducible refine Kd.C_alloc ?_ _) | (with_reducible refine Kd.C_drewN ?_ _) | (with_reducible refine Kd.C_drew ?_))); (case side2 => exact HC0.out); rintro e w' ⟨rfl, ⟨nd, rfl⟩⟩; (try first | exact ⟨rfl, _, World.drewN_drewN _ _ _⟩ | exact ⟨rfl, _, Eq.trans (World.drewN_drewN _ _ _) (congrArg (World.drewN _) (Nat.add_assoc _ _ _))⟩)))
        go_meet
        case rel => exact ⟨_, (true), (by first | rfl | (simp; done) | (simp [*]; done)), H', ⟨by first | omega | exact Nat.le_refl _⟩, ⟨by (with_reducible repeat (first | apply Kd.V_alloc | apply Kd.V_drewN | apply Kd.V_drew)); exact HO1.out⟩, ⟨by repeat (first | (with_reducible first | exact HB.out | apply below_alloc | apply pw_below_drewN | apply below_drew1) | exact HB.out)⟩⟩
    · replace c6 := Bool.eq_false_iff.mpr c6
      subst c6
      have H1 : (plMore.j0 k l0 l1 a2 true) = some r := by rw [if_neg (show ¬ (false = true) by decide)] at H; exact H
      clear H
      have H := H1
      clear H1
      have H' := Aside0.mk H
      clear H
      go_wp2_with (first | (go_at_call 7; (with_reducible refine (monticulelaw28_awake.calls k  false _ A5.out).mono ?_); rintro e w16 ⟨rfl, hb⟩; have n0_ := Aside0.mk (Kd.V_below (by (with_reducible repeat (first | apply Kd.V_alloc | apply Kd.V_drewN | apply Kd.V_drew)); exact HO1.out) hb); have n1_ := Aside0.mk (below_step (by repeat (first | (with_reducible first | exact HB.out | apply below_alloc | apply pw_below_drewN | apply below_drew1) | exact HB.out)) hb); clear HO1; clear HB; have HO1 := n0_; have HB := n1_; clear n0_ n1_; (try clear hb); (try clear hb2); (try clear hk); (try clear hi)))
      go_meet
      case rel => exact ⟨_, (true), (by first | rfl | (simp; done) | (simp [*]; done)), H', ⟨by first | omega | exact Nat.le_refl _⟩, ⟨by (with_reducible repeat (first | apply Kd.V_alloc | apply Kd.V_drewN | apply Kd.V_drew)); exact HO1.out⟩, ⟨by repeat (first | (with_reducible first | exact HB.out | apply below_alloc | apply pw_below_drewN | apply below_drew1) | exact HB.out)⟩⟩
  case rest =>
    clear HC4
    try clear c1
    try clear p2
    try clear c5
    try clear c6
    try clear c8
    try clear c10
    obtain ⟨kq, x33_3, rfl, HA, HJ3, HO_1, HB⟩ := hcut
    cases kq with
    | zero => exact absurd HA.out (by simp [plMore.j0])
    | succ kj3 =>
      have H := HA.out
      clear HA
      simp only [plMore.j0] at H
      by_cases c17 : x33_3 = true
      · subst c17
        have H1 : ((monticulelaw28_awake.f kj3).bind fun t283 => (some t283)) = some r := by rw [if_pos rfl] at H; exact H
        clear H
        have H := H1
        clear H1
        replace H := Option.bind_eq_some_iff.mp H
        obtain ⟨t283, A180, H⟩ := H
        replace H : (some t283) = some r := H
        have A18 := Aside0.mk A180
        clear A180
        obtain rfl := Option.some.inj H
        go_wp2_with (first | (go_at_call 7; (with_reducible refine (monticulelaw28_awake.calls kj3  t283 _ A18.out).mono ?_); rintro e w19 ⟨rfl, hb⟩; have n0_ := Aside0.mk (Kd.V_below (by (with_reducible repeat (first | apply Kd.V_alloc | apply Kd.V_drewN | apply Kd.V_drew)); exact HO_1.out) hb); have n1_ := Aside0.mk (below_step (by repeat (first | (with_reducible first | exact HB.out | apply below_alloc | apply pw_below_drewN | apply below_drew1) | exact HB.out)) hb); clear HO_1; clear HB; have HO_1 := n0_; have HB := n1_; clear n0_ n1_; (try clear hb); (try clear hb2); (try clear hk); (try clear hi)))
        go_ret
        exact ⟨by first | rfl | (simp [errW_none, errW_some] <;> rfl) | (simp [*, errW_none, errW_some] <;> rfl), by repeat (first | (with_reducible first | exact HB.out | apply below_alloc | apply pw_below_drewN | apply below_drew1) | exact HB.out)⟩
      · replace c17 := Bool.eq_false_iff.mpr c17
        subst c17
        have H1 : (plMore.l0 kj3 l0 l1 a2 0) = some r := by rw [if_neg (show ¬ (false = true) by decide)] at H; exact H
        clear H
        have H := H1
        clear H1
        have H' := Aside0.mk H
        clear H
        go_wp2
        repeat (go_quiet (fail); try go_wp2)
        go_loopg [7] kj3 (fun kq v7 w' => ∃ (x7_2 : Int), v7 = .int .i64 x7_2 ∧ Aside0 (plMore.l0 kq l0 l1 a2 x7_2 = some r) ∧ Aside0 (kq ≤ kj3) ∧ Aside0 (Kd.V k34 34 w' w.heap.size (fun k_ => (P1_ k_ ∨ w.heap.size ≤ k_)) (.slice A1 l1.length c1) l1) ∧ Aside0 (Below w.heap.size w w'))
        case atStart => exact ⟨(0), (by first | rfl | (simp; done) | (simp [*]; done)), H', ⟨Nat.le_refl _⟩, ⟨by (with_reducible repeat (first | apply Kd.V_alloc | apply Kd.V_drewN | apply Kd.V_drew)); exact HO_1.out⟩, ⟨by repeat (first | (with_reducible first | exact HB.out | apply below_alloc | apply pw_below_drewN | apply below_drew1) | exact HB.out)⟩⟩
        case round =>
          clear H'
          try clear c1
          try clear p2
          try clear c5
          try clear c6
          try clear c8
          try clear c10
          try clear c17
          try clear p2
          obtain ⟨x7_2, rfl, HA, HK2, HO_1, HB⟩ := hrel
          cases gk with
          | zero => exact absurd HA.out (by simp [plMore.l0])
          | succ k2 =>
            have H := HA.out
            clear HA
            simp only [plMore.l0] at H
            by_cases c20 : x7_2 < (l1.length : Int)
            · rw [if_pos c20] at H
              have c20b0 : decide (x7_2 < (l1.length : Int)) = true := decide_eq_true c20
              clear c20
              by_cases c21 : 0 ≤ x7_2
              · rw [if_pos c21] at H
                have c21b0 : decide (0 ≤ x7_2) = true := decide_eq_true c21
                clear c21
                by_cases c22 : ((rd_T34 l1 x7_2).f0).toList = a2.toList
                · rw [if_pos c22] at H
                  have c22b0 : (((rd_T34 l1 x7_2).f0).toList == a2.toList) = true := beq_iff_eq.mpr c22
                  have c22b1 : (((rd_T34 l1 x7_2).f0).toList != a2.toList) = false := bne_eq_false_iff_eq.mpr c22
                  clear c22
                  obtain rfl := Option.some.inj H
                  have p284 : 0 ≤ (x7_2 : Int) := of_decide_eq_true (by first | (with_reducible assumption) | assumption)
                  have q284 : x7_2 < (l1.length : Int) := of_decide_eq_true (by first | (with_reducible assumption) | assumption)
                  obtain ⟨ad284, A284_2, c284_2, A284_3, c284_3, e284, hx284_0, hx284_1, hx284_2, hx284_3, hl284_2, hi284_2, hl284_3, hi284_3⟩ := at_T34 (Kd.V_reads' HO_1.out).2.2 x7_2 p284 q284
                  cases e284
                  obtain ⟨ce284, hce284, hMe284, hcc284⟩ := Kd.V_get HO_1.out z34 x7_2 p284 (by first | exact q284 | exact of_decide_eq_true (by first | (with_reducible assumption) | assumption) | (have e_ := (Kd.V_reads' HO_1.out).1; omega))
                  obtain ⟨ua284_2, uc284_2, ua284_3, uc284_3, rfl, ul284_2, ge284_2, ul284_3, ge284_3⟩ := k34_openF hMe284
                  have hv284_2 := hcc284 2 _ rfl
                  rw [add_field _ _ 2 (by omega)] at hv284_2
                  replace hv284_2 := Option.some.inj (hv284_2.symm.trans hx284_2)
                  injection hv284_2 with hva_ hvn_ hvc_
                  rw [hva_] at ge284_2
                  rw [hvc_] at ul284_2
                  have HL284_2 := Aside0.mk (show Kd.V Kd.string 9 _ w.heap.size _ _ ((rd_T34 l1 x7_2).f2) from Kd.V_mk ul284_2 ge284_2)
                  clear hva_ hvn_ hvc_ ge284_2 ul284_2
                  have hv284_3 := hcc284 3 _ rfl
                  rw [add_field _ _ 3 (by omega)] at hv284_3
                  replace hv284_3 := Option.some.inj (hv284_3.symm.trans hx284_3)
                  injection hv284_3 with hva_ hvn_ hvc_
                  rw [hva_] at ge284_3
                  rw [hvc_] at ul284_3
                  have HL284_3 := Aside0.mk (show Kd.V k68 68 _ w.heap.size _ _ ((rd_T34 l1 x7_2).f3) from Kd.V_mk ul284_3 ge284_3)
                  clear hva_ hvn_ hvc_ ge284_3 ul284_3
                  clear hcc284 hce284
                  have HR284_2 := Aside0.mk hi284_2
                  have HC284_2 := Aside0.mk hl284_2
                  clear hi284_2 hl284_2
                  have HR284_3 := Aside0.mk hi284_3
                  have HC284_3 := Aside0.mk hl284_3
                  clear hi284_3 hl284_3
                  replace p284 := eq_true p284
                  replace q284 := eq_true q284
                  go_wp2
                  repeat (go_quiet (fail); try go_wp2)
                  go_ret
                  exact ⟨by first | rfl | (simp [errW_none, errW_some] <;> rfl) | (simp [*, errW_none, errW_some] <;> rfl), by repeat (first | (with_reducible first | exact HB.out | apply below_alloc | apply pw_below_drewN | apply below_drew1) | exact HB.out)⟩
                · rw [if_neg c22] at H
                  have c22b0 : (((rd_T34 l1 x7_2).f0).toList == a2.toList) = false := beq_eq_false_iff_ne.mpr c22
                  have c22b1 : (((rd_T34 l1 x7_2).f0).toList != a2.toList) = true := bne_iff_ne.mpr c22
                  replace H := Option.bind_eq_some_iff.mp H
                  obtain ⟨t286, A230, H⟩ := H
                  replace H : (if t286 = true then (some true) else (plMore.l0 k2 l0 l1 a2 (wrap64 (x7_2 + 1)))) = some r := H
                  have A23 := Aside0.mk A230
                  clear A230
                  by_cases c24 : t286 = true
                  · subst c24
                    have H1 : (some true) = some r := by rw [if_pos rfl] at H; exact H
                    clear H
                    have H := H1
                    clear H1
                    obtain rfl := Option.some.inj H
                    have p284 : 0 ≤ (x7_2 : Int) := of_decide_eq_true (by first | (with_reducible assumption) | assumption)
                    have q284 : x7_2 < (l1.length : Int) := of_decide_eq_true (by first | (with_reducible assumption) | assumption)
                    obtain ⟨ad284, A284_2, c284_2, A284_3, c284_3, e284, hx284_0, hx284_1, hx284_2, hx284_3, hl284_2, hi284_2, hl284_3, hi284_3⟩ := at_T34 (Kd.V_reads' HO_1.out).2.2 x7_2 p284 q284
                    cases e284
                    obtain ⟨ce284, hce284, hMe284, hcc284⟩ := Kd.V_get HO_1.out z34 x7_2 p284 (by first | exact q284 | exact of_decide_eq_true (by first | (with_reducible assumption) | assumption) | (have e_ := (Kd.V_reads' HO_1.out).1; omega))
                    obtain ⟨ua284_2, uc284_2, ua284_3, uc284_3, rfl, ul284_2, ge284_2, ul284_3, ge284_3⟩ := k34_openF hMe284
                    have hv284_2 := hcc284 2 _ rfl
                    rw [add_field _ _ 2 (by omega)] at hv284_2
                    replace hv284_2 := Option.some.inj (hv284_2.symm.trans hx284_2)
                    injection hv284_2 with hva_ hvn_ hvc_
                    rw [hva_] at ge284_2
                    rw [hvc_] at ul284_2
                    have HL284_2 := Aside0.mk (show Kd.V Kd.string 9 _ w.heap.size _ _ ((rd_T34 l1 x7_2).f2) from Kd.V_mk ul284_2 ge284_2)
                    clear hva_ hvn_ hvc_ ge284_2 ul284_2
                    have hv284_3 := hcc284 3 _ rfl
                    rw [add_field _ _ 3 (by omega)] at hv284_3
                    replace hv284_3 := Option.some.inj (hv284_3.symm.trans hx284_3)
                    injection hv284_3 with hva_ hvn_ hvc_
                    rw [hva_] at ge284_3
                    rw [hvc_] at ul284_3
                    have HL284_3 := Aside0.mk (show Kd.V k68 68 _ w.heap.size _ _ ((rd_T34 l1 x7_2).f3) from Kd.V_mk ul284_3 ge284_3)
                    clear hva_ hvn_ hvc_ ge284_3 ul284_3
                    clear hcc284 hce284
                    have HR284_2 := Aside0.mk hi284_2
                    have HC284_2 := Aside0.mk hl284_2
                    clear hi284_2 hl284_2
                    have HR284_3 := Aside0.mk hi284_3
                    have HC284_3 := Aside0.mk hl284_3
                    clear hi284_3 hl284_3
                    replace p284 := eq_true p284
                    replace q284 := eq_true q284
                    have p285 : 0 ≤ (x7_2 : Int) := of_decide_eq_true (by first | (with_reducible assumption) | assumption)
                    have q285 : x7_2 < (l1.length : Int) := of_decide_eq_true (by first | (with_reducible assumption) | assumption)
                    obtain ⟨ad285, A285_2, c285_2, A285_3, c285_3, e285, hx285_0, hx285_1, hx285_2, hx285_3, hl285_2, hi285_2, hl285_3, hi285_3⟩ := at_T34 (Kd.V_reads' HO_1.out).2.2 x7_2 p285 q285
                    obtain rfl : ad284 = ad285 := (by injection e285)
                    obtain ⟨ce285, hce285, hMe285, hcc285⟩ := Kd.V_get HO_1.out z34 x7_2 p285 (by first | exact q285 | exact of_decide_eq_true (by first | (with_reducible assumption) | assumption) | (have e_ := (Kd.V_reads' HO_1.out).1; omega))
                    obtain ⟨ua285_2, uc285_2, ua285_3, uc285_3, rfl, ul285_2, ge285_2, ul285_3, ge285_3⟩ := k34_openF hMe285
                    have hv285_2 := hcc285 2 _ rfl
                    rw [add_field _ _ 2 (by omega)] at hv285_2
                    replace hv285_2 := Option.some.inj (hv285_2.symm.trans hx285_2)
                    injection hv285_2 with hva_ hvn_ hvc_
                    rw [hva_] at ge285_2
                    rw [hvc_] at ul285_2
                    have HL285_2 := Aside0.mk (show Kd.V Kd.string 9 _ w.heap.size _ _ ((rd_T34 l1 x7_2).f2) from Kd.V_mk ul285_2 ge285_2)
                    clear hva_ hvn_ hvc_ ge285_2 ul285_2
                    have hv285_3 := hcc285 3 _ rfl
                    rw [add_field _ _ 3 (by omega)] at hv285_3
                    replace hv285_3 := Option.some.inj (hv285_3.symm.trans hx285_3)
                    injection hv285_3 with hva_ hvn_ hvc_
                    rw [hva_] at ge285_3
                    rw [hvc_] at ul285_3
                    have HL285_3 := Aside0.mk (show Kd.V k68 68 _ w.heap.size _ _ ((rd_T34 l1 x7_2).f3) from Kd.V_mk ul285_3 ge285_3)
                    clear hva_ hvn_ hvc_ ge285_3 ul285_3
                    clear hcc285 hce285
                    have HR285_2 := Aside0.mk hi285_2
                    have HC285_2 := Aside0.mk hl285_2
                    clear hi285_2 hl285_2
                    have HR285_3 := Aside0.mk hi285_3
                    have HC285_3 := Aside0.mk hl285_3
                    clear hi285_3 hl285_3
                    replace p285 := eq_true p285
                    replace q285 := eq_true q285
                    have ea_ := Option.some.inj (hx284_2.symm.trans hx285_2)
                    injection ea_ with ea_ en_ ec_
                    subst ea_
                    subst ec_
                    clear en_
                    have ea_ := Option.some.inj (hx284_3.symm.trans hx285_3)
                    injection ea_ with ea_ en_ ec_
                    subst ea_
                    subst ec_
                    clear en_
                    go_wp2_with (first | (go_at_call 11; (with_reducible refine (monticuleref06_In.calls k2 _ _ ((rd_T34 l1 x7_2).f2) a2 true _ ?side1 ?side2 A23.out).mono ?_); (case side1 => repeat (first | exact (by repeat (first | (with_reducible exact HR285_2.out) | (with_reducible refine Kd.C_alloc ?_ _) | (with_reducible refine Kd.C_drewN ?_ _) | (with_reducible refine Kd.C_drew ?_) | exact HR285_2.out)) | (with_reducible refine Kd.C_alloc ?_ _) | (with_reducible refine Kd.C_drewN ?_ _) | (with_reducible refine Kd.C_drew ?_))); (case side2 => exact HC285_2.out); rintro e w' ⟨rfl, ⟨nd, rfl⟩⟩; (try first | exact ⟨rfl, _, World.drewN_drewN _ _ _⟩ | exact ⟨rfl, _, Eq.trans (World.drewN_drewN _ _ _) (congrArg (World.drewN _) (Nat.add_assoc _ _ _))⟩)))
                    go_ret
                    exact ⟨by first | rfl | (simp [errW_none, errW_some] <;> rfl) | (simp [*, errW_none, errW_some] <;> rfl), by repeat (first | (with_reducible first | exact HB.out | apply below_alloc | apply pw_below_drewN | apply below_drew1) | exact HB.out)⟩
                  · replace c24 := Bool.eq_false_iff.mpr c24
                    subst c24
                    have H1 : (plMore.l0 k2 l0 l1 a2 (wrap64 (x7_2 + 1))) = some r := by rw [if_neg (show ¬ (false = true) by decide)] at H; exact H
                    clear H
                    have H := H1
                    clear H1
                    have H' := Aside0.mk H
                    clear H
                    have p284 : 0 ≤ (x7_2 : Int) := of_decide_eq_true (by first | (with_reducible assumption) | assumption)
                    have q284 : x7_2 < (l1.length : Int) := of_decide_eq_true (by first | (with_reducible assumption) | assumption)
                    obtain ⟨ad284, A284_2, c284_2, A284_3, c284_3, e284, hx284_0, hx284_1, hx284_2, hx284_3, hl284_2, hi284_2, hl284_3, hi284_3⟩ := at_T34 (Kd.V_reads' HO_1.out).2.2 x7_2 p284 q284
                    cases e284
                    obtain ⟨ce284, hce284, hMe284, hcc284⟩ := Kd.V_get HO_1.out z34 x7_2 p284 (by first | exact q284 | exact of_decide_eq_true (by first | (with_reducible assumption) | assumption) | (have e_ := (Kd.V_reads' HO_1.out).1; omega))
                    obtain ⟨ua284_2, uc284_2, ua284_3, uc284_3, rfl, ul284_2, ge284_2, ul284_3, ge284_3⟩ := k34_openF hMe284
                    have hv284_2 := hcc284 2 _ rfl
                    rw [add_field _ _ 2 (by omega)] at hv284_2
                    replace hv284_2 := Option.some.inj (hv284_2.symm.trans hx284_2)
                    injection hv284_2 with hva_ hvn_ hvc_
                    rw [hva_] at ge284_2
                    rw [hvc_] at ul284_2
                    have HL284_2 := Aside0.mk (show Kd.V Kd.string 9 _ w.heap.size _ _ ((rd_T34 l1 x7_2).f2) from Kd.V_mk ul284_2 ge284_2)
                    clear hva_ hvn_ hvc_ ge284_2 ul284_2
                    have hv284_3 := hcc284 3 _ rfl
                    rw [add_field _ _ 3 (by omega)] at hv284_3
                    replace hv284_3 := Option.some.inj (hv284_3.symm.trans hx284_3)
                    injection hv284_3 with hva_ hvn_ hvc_
                    rw [hva_] at ge284_3
                    rw [hvc_] at ul284_3
                    have HL284_3 := Aside0.mk (show Kd.V k68 68 _ w.heap.size _ _ ((rd_T34 l1 x7_2).f3) from Kd.V_mk ul284_3 ge284_3)
                    clear hva_ hvn_ hvc_ ge284_3 ul284_3
                    clear hcc284 hce284
                    have HR284_2 := Aside0.mk hi284_2
                    have HC284_2 := Aside0.mk hl284_2
                    clear hi284_2 hl284_2
                    have HR284_3 := Aside0.mk hi284_3
                    have HC284_3 := Aside0.mk hl284_3
                    clear hi284_3 hl284_3
                    replace p284 := eq_true p284
                    replace q284 := eq_true q284
                    have p285 : 0 ≤ (x7_2 : Int) := of_decide_eq_true (by first | (with_reducible assumption) | assumption)
                    have q285 : x7_2 < (l1.length : Int) := of_decide_eq_true (by first | (with_reducible assumption) | assumption)
                    obtain ⟨ad285, A285_2, c285_2, A285_3, c285_3, e285, hx285_0, hx285_1, hx285_2, hx285_3, hl285_2, hi285_2, hl285_3, hi285_3⟩ := at_T34 (Kd.V_reads' HO_1.out).2.2 x7_2 p285 q285
                    obtain rfl : ad284 = ad285 := (by injection e285)
                    obtain ⟨ce285, hce285, hMe285, hcc285⟩ := Kd.V_get HO_1.out z34 x7_2 p285 (by first | exact q285 | exact of_decide_eq_true (by first | (with_reducible assumption) | assumption) | (have e_ := (Kd.V_reads' HO_1.out).1; omega))
                    obtain ⟨ua285_2, uc285_2, ua285_3, uc285_3, rfl, ul285_2, ge285_2, ul285_3, ge285_3⟩ := k34_openF hMe285
                    have hv285_2 := hcc285 2 _ rfl
                    rw [add_field _ _ 2 (by omega)] at hv285_2
                    replace hv285_2 := Option.some.inj (hv285_2.symm.trans hx285_2)
                    injection hv285_2 with hva_ hvn_ hvc_
                    rw [hva_] at ge285_2
                    rw [hvc_] at ul285_2
                    have HL285_2 := Aside0.mk (show Kd.V Kd.string 9 _ w.heap.size _ _ ((rd_T34 l1 x7_2).f2) from Kd.V_mk ul285_2 ge285_2)
                    clear hva_ hvn_ hvc_ ge285_2 ul285_2
                    have hv285_3 := hcc285 3 _ rfl
                    rw [add_field _ _ 3 (by omega)] at hv285_3
                    replace hv285_3 := Option.some.inj (hv285_3.symm.trans hx285_3)
                    injection hv285_3 with hva_ hvn_ hvc_
                    rw [hva_] at ge285_3
                    rw [hvc_] at ul285_3
                    have HL285_3 := Aside0.mk (show Kd.V k68 68 _ w.heap.size _ _ ((rd_T34 l1 x7_2).f3) from Kd.V_mk ul285_3 ge285_3)
                    clear hva_ hvn_ hvc_ ge285_3 ul285_3
                    clear hcc285 hce285
                    have HR285_2 := Aside0.mk hi285_2
                    have HC285_2 := Aside0.mk hl285_2
                    clear hi285_2 hl285_2
                    have HR285_3 := Aside0.mk hi285_3
                    have HC285_3 := Aside0.mk hl285_3
                    clear hi285_3 hl285_3
                    replace p285 := eq_true p285
                    replace q285 := eq_true q285
                    have ea_ := Option.some.inj (hx284_2.symm.trans hx285_2)
                    injection ea_ with ea_ en_ ec_
                    subst ea_
                    subst ec_
                    clear en_
                    have ea_ := Option.some.inj (hx284_3.symm.trans hx285_3)
                    injection ea_ with ea_ en_ ec_
                    subst ea_
                    subst ec_
                    clear en_
                    go_wp2_with (first | (go_at_call 11; (with_reducible refine (monticuleref06_In.calls k2 _ _ ((rd_T34 l1 x7_2).f2) a2 false _ ?side1 ?side2 A23.out).mono ?_); (case side1 => repeat (first | exact (by repeat (first | (with_reducible exact HR285_2.out) | (with_reducible refine Kd.C_alloc ?_ _) | (with_reducible refine Kd.C_drewN ?_ _) | (with_reducible refine Kd.C_drew ?_) | exact HR285_2.out)) | (with_reducible refine Kd.C_alloc ?_ _) | (with_reducible refine Kd.C_drewN ?_ _) | (with_reducible refine Kd.C_drew ?_))); (case side2 => exact HC285_2.out); rintro e w' ⟨rfl, ⟨nd, rfl⟩⟩; (try first | exact ⟨rfl, _, World.drewN_drewN _ _ _⟩ | exact ⟨rfl, _, Eq.trans (World.drewN_drewN _ _ _) (congrArg (World.drewN _) (Nat.add_assoc _ _ _))⟩)))
                    go_roundg k2
                    case measure => have := HJ3.out; have := HK2.out; omega
                    case rel => exact ⟨(wrap64 (x7_2 + 1)), (by first | rfl | (simp; done) | (simp [*]; done)), H', ⟨by have := HJ3.out; have := HK2.out; omega⟩, ⟨by (with_reducible repeat (first | apply Kd.V_alloc | apply Kd.V_drewN | apply Kd.V_drew)); exact HO_1.out⟩, ⟨by repeat (first | (with_reducible first | exact HB.out | apply below_alloc | apply pw_below_drewN | apply below_drew1) | exact HB.out)⟩⟩
              · rw [if_neg c21] at H
                exact absurd H (by simp)
            · rw [if_neg c20] at H
              have c20b0 : decide (x7_2 < (l1.length : Int)) = false := decide_eq_false c20
              clear c20
              replace H := Option.bind_eq_some_iff.mp H
              obtain ⟨⟨t287, t288, t289⟩, A250, H⟩ := H
              replace H : ((some (([] : List (S34)) : List (S34))).bind fun y292 => (if y292.length + l1.length < 1954687338268 then ((some (y292 ++ l1 : List (S34))).bind fun y295 => (if y295.length < 1954687338268 then ((plan_Order.f k2 l0 (y295 ++ [(⟨a2, 1, ([] : List ByteArray), ([] : List (S68))⟩ : S34)])).bind fun bt301 => ((monticuleref06_Class.f k2 a2).bind fun t306 => (if t306 = true then (if t288 = bt301.2.1 then (plMore.j2 k2 l1 t287 t288 bt301.1 bt301.2.1 (t288 != 0)) else (plMore.j2 k2 l1 t287 t288 bt301.1 bt301.2.1 true)) else (if t288 = 0 then (if bt301.2.1 = 2 then (some (bt301.2.2.toList == a2.toList)) else (some false)) else (if bt301.2.1 = 0 then (if bt301.2.1 = 2 then (some (bt301.2.2.toList == a2.toList)) else (some false)) else (some true)))))) else (none))) else (none))) = some r := H
              have A25 := Aside0.mk A250
              clear A250
              obtain ⟨y292, hy292⟩ : ∃ y_ : List (S34), y_ = (([] : List (S34))) := ⟨_, rfl⟩
              replace H : (if y292.length + l1.length < 1954687338268 then ((some (y292 ++ l1 : List (S34))).bind fun y295 => (if y295.length < 1954687338268 then ((plan_Order.f k2 l0 (y295 ++ [(⟨a2, 1, ([] : List ByteArray), ([] : List (S68))⟩ : S34)])).bind fun bt301 => ((monticuleref06_Class.f k2 a2).bind fun t306 => (if t306 = true then (if t288 = bt301.2.1 then (plMore.j2 k2 l1 t287 t288 bt301.1 bt301.2.1 (t288 != 0)) else (plMore.j2 k2 l1 t287 t288 bt301.1 bt301.2.1 true)) else (if t288 = 0 then (if bt301.2.1 = 2 then (some (bt301.2.2.toList == a2.toList)) else (some false)) else (if bt301.2.1 = 0 then (if bt301.2.1 = 2 then (some (bt301.2.2.toList == a2.toList)) else (some false)) else (some true)))))) else (none))) else (none)) = some r := by first | (rw [hy292]; with_reducible exact H) | (have H2_ := (Option.bind_some _ _).symm.trans H; rw [hy292]; with_reducible exact H2_) | (have H2_ := (Option.bind_some _ _).symm.trans H; with_reducible exact H2_) | with_reducible exact H | (rw [hy292]; exact H) | exact H
              have Ny292 := Aside0.mk hy292
              clear hy292
              by_cases c26 : y292.length + l1.length < 1954687338268
              · rw [if_pos c26] at H
                have LMc26 := Aside0.mk c26
                clear c26
                obtain ⟨y295, hy295⟩ : ∃ y_ : List (S34), y_ = (y292 ++ l1) := ⟨_, rfl⟩
                replace H : (if y295.length < 1954687338268 then ((plan_Order.f k2 l0 (y295 ++ [(⟨a2, 1, ([] : List ByteArray), ([] : List (S68))⟩ : S34)])).bind fun bt301 => ((monticuleref06_Class.f k2 a2).bind fun t306 => (if t306 = true then (if t288 = bt301.2.1 then (plMore.j2 k2 l1 t287 t288 bt301.1 bt301.2.1 (t288 != 0)) else (plMore.j2 k2 l1 t287 t288 bt301.1 bt301.2.1 true)) else (if t288 = 0 then (if bt301.2.1 = 2 then (some (bt301.2.2.toList == a2.toList)) else (some false)) else (if bt301.2.1 = 0 then (if bt301.2.1 = 2 then (some (bt301.2.2.toList == a2.toList)) else (some false)) else (some true)))))) else (none)) = some r := by first | (rw [hy295]; with_reducible exact H) | (have H2_ := (Option.bind_some _ _).symm.trans H; rw [hy295]; with_reducible exact H2_) | (have H2_ := (Option.bind_some _ _).symm.trans H; with_reducible exact H2_) | with_reducible exact H | (rw [hy295]; exact H) | exact H
                have Ny295 := Aside0.mk hy295
                clear hy295
                by_cases c27 : y295.length < 1954687338268
                · rw [if_pos c27] at H
                  have LMc27 := Aside0.mk c27
                  clear c27
                  obtain ⟨y298, hy298⟩ : ∃ y_ : List (S34), y_ = (y295 ++ [(⟨a2, 1, ([] : List ByteArray), ([] : List (S68))⟩ : S34)]) := ⟨_, rfl⟩
                  replace H : ((plan_Order.f k2 l0 y298).bind fun bt301 => ((monticuleref06_Class.f k2 a2).bind fun t306 => (if t306 = true then (if t288 = bt301.2.1 then (plMore.j2 k2 l1 t287 t288 bt301.1 bt301.2.1 (t288 != 0)) else (plMore.j2 k2 l1 t287 t288 bt301.1 bt301.2.1 true)) else (if t288 = 0 then (if bt301.2.1 = 2 then (some (bt301.2.2.toList == a2.toList)) else (some false)) else (if bt301.2.1 = 0 then (if bt301.2.1 = 2 then (some (bt301.2.2.toList == a2.toList)) else (some false)) else (some true)))))) = some r := by first | (rw [hy298]; with_reducible exact H) | (have H2_ := (Option.bind_some _ _).symm.trans H; rw [hy298]; with_reducible exact H2_) | (have H2_ := (Option.bind_some _ _).symm.trans H; with_reducible exact H2_) | with_reducible exact H | (rw [hy298]; exact H) | exact H
                  have Ny298 := Aside0.mk hy298
                  clear hy298
                  replace H := Option.bind_eq_some_iff.mp H
                  obtain ⟨⟨t301, t302, t303⟩, A280, H⟩ := H
                  replace H : ((monticuleref06_Class.f k2 a2).bind fun t306 => (if t306 = true then (if t288 = t302 then (plMore.j2 k2 l1 t287 t288 t301 t302 (t288 != 0)) else (plMore.j2 k2 l1 t287 t288 t301 t302 true)) else (if t288 = 0 then (if t302 = 2 then (some (t303.toList == a2.toList)) else (some false)) else (if t302 = 0 then (if t302 = 2 then (some (t303.toList == a2.toList)) else (some false)) else (some true))))) = some r := H
                  have A28 := Aside0.mk A280
                  clear A280
                  replace H := Option.bind_eq_some_iff.mp H
                  obtain ⟨t306, A290, H⟩ := H
                  replace H : (if t306 = true then (if t288 = t302 then (plMore.j2 k2 l1 t287 t288 t301 t302 (t288 != 0)) else (plMore.j2 k2 l1 t287 t288 t301 t302 true)) else (if t288 = 0 then (if t302 = 2 then (some (t303.toList == a2.toList)) else (some false)) else (if t302 = 0 then (if t302 = 2 then (some (t303.toList == a2.toList)) else (some false)) else (some true)))) = some r := H
                  have A29 := Aside0.mk A290
                  clear A290
                  by_cases c30 : t306 = true
                  · subst c30
                    have H1 : (if t288 = t302 then (plMore.j2 k2 l1 t287 t288 t301 t302 (t288 != 0)) else (plMore.j2 k2 l1 t287 t288 t301 t302 true)) = some r := by rw [if_pos rfl] at H; exact H
                    clear H
                    have H := H1
                    clear H1
                    have HC31 := Aside0.mk H
                    clear H
                    go_upto_region 13 with (first | (go_at_call 10; (with_reducible refine (plan_Order.calls k2 _ _ l0 _ _ l1 t287 t288 t289 _ ?side1 ?side2 ?side3 ?side4 A25.out).mono ?_); (case side1 => repeat (first | exact (Kd.C_below HR0.out HB.out) | (with_reducible refine Kd.C_alloc ?_ _) | (with_reducible refine Kd.C_drewN ?_ _) | (with_reducible refine Kd.C_drew ?_))); (case side2 => exact HC0.out); (case side3 => repeat (first | exact (Kd.V_reads' HO_1.out).2.2 | (with_reducible refine Kd.C_alloc ?_ _) | (with_reducible refine Kd.C_drewN ?_ _) | (with_reducible refine Kd.C_drew ?_))); (case side4 => exact (Kd.V_reads' HO_1.out).2.1); rintro e w32 ⟨v290, rfl, ho0, hb⟩; have n0_ := Aside0.mk (Kd.V_elder' (by (with_reducible repeat (first | apply Kd.V_alloc | apply Kd.V_drewN | apply Kd.V_drew)); exact HO_1.out) (Kd.R_base ho0) hb); have n1_ := Aside0.mk (Kd.R_lower (Kd.R_newM (M := fun k_ => (w.heap.size ≤ k_)) ho0 (below_size (by repeat (first | (with_reducible first | exact HB.out | apply below_alloc | apply pw_below_drewN | apply below_drew1) | exact HB.out))) (fun k_ h_ => h_)) (below_size (by repeat (first | (with_reducible first | exact HB.out | apply below_alloc | apply pw_below_drewN | apply below_drew1) | exact HB.out)))); have n2_ := Aside0.mk (below_step (by repeat (first | (with_reducible first | exact HB.out | apply below_alloc | apply pw_below_drewN | apply below_drew1) | exact HB.out)) hb); clear HO_1; clear HB; have HO_1 := n0_; have HO291 := n1_; have HB := n2_; clear n0_ n1_ n2_; (try clear hb); (try clear hb2); (try clear hk); (try clear hi); (try clear ho0)) | ((with_reducible refine gate_dst (N := 64) rfl ?_); (try (refine gate_guard (by rfl) ?_; dsimp only)); refine Kd.N_lit k34 _ 34 ?hg (N' := 64) ?hd (xs := ([] : List (S34))) (inner := []) (ok := (fun k_ => (P1_ k_ ∨ w.heap.size ≤ k_) ∧ some k_ ≠ (v290 : Value).ownBlock)) (okp := (fun k_ => (P1_ k_ ∨ w.heap.size ≤ k_) ∧ some k_ ≠ (v290 : Value).ownBlock)) ?hr ?hp (fun _ hk => hk) ((show ∀ k_, w32.heap.size ≤ k_ → (fun k_ => (P1_ k_ ∨ w.heap.size ≤ k_) ∧ some k_ ≠ (v290 : Value).ownBlock) k_ from fun k_ hk => ⟨(.inr (Nat.le_trans (below_size (by repeat (first | (with_reducible first | exact HB.out | apply below_alloc | apply pw_below_drewN | apply below_drew1) | exact HB.out))) hk)), Kd.fresh' (Kd.R_lt (by (with_reducible repeat (first | apply Kd.R_alloc | apply Kd.R_drewN | apply Kd.R_drew)); exact HO291.out)) k_ hk⟩) _ (Nat.le_refl _)) (Below.refl _ _) (Nat.le_refl _) (by simp) ?_; (case hd => rfl); (case hg => rfl); (case hr => first | (go_simp; done) | (go_simp; rfl)); (case hp => exact (Reps.none _ _)); intro v293 w33 ho34 hb hg_ hnew_; clear hg_ hnew_; (first | rw [← Ny292.out] at ho34 | (simp only [Int.reduceToNat] at ho34; rw [← Ny292.out] at ho34)); have n0_ := Aside0.mk (Kd.V_elder' (by (with_reducible repeat (first | apply Kd.V_alloc | apply Kd.V_drewN | apply Kd.V_drew)); exact HO_1.out) (Kd.N_base ho34) hb); have n1_ := Aside0.mk (Kd.R_below (by (with_reducible repeat (first | apply Kd.R_alloc | apply Kd.R_drewN | apply Kd.R_drew)); exact HO291.out) hb); have n2_ := Aside0.mk (Kd.N_lower ho34 (below_size (by repeat (first | (with_reducible first | exact HB.out | apply below_alloc | apply pw_below_drewN | apply below_drew1) | exact HB.out)))); have n3_ := Aside0.mk (below_step (by repeat (first | (with_reducible first | exact HB.out | apply below_alloc | apply pw_below_drewN | apply below_drew1) | exact HB.out)) hb); clear HO_1; clear HO291; clear HB; have HO_1 := n0_; have HO291 := n1_; have HO294 := n2_; have HB := n3_; clear n0_ n1_ n2_ n3_; clear hb ho34) | ((with_reducible refine gate_builtin (b := .append) (xs := #[.tmp 64, .tmp 65]) rfl ?_); (try (refine gate_guard (by rfl) ?_; dsimp only)); at_builtin; refine Kd.N_append_rows k34 (w0 := w) w.heap.size rfl (.tmp 64) (.tmp 65) 23 34 (.agg #[(.string ⟨#[]⟩), (.int .i64 0), (.slice none 0 0), (.slice none 0 0)]) 72 rfl Tryd.underlying23 info34 rfl (by decide) (by omega) v293 y292 l1 _ _ _ (fun k_ => (P1_ k_ ∨ w.heap.size ≤ k_) ∧ some k_ ≠ (v290 : Value).ownBlock) (fun k_ => ((fun k_ => (P1_ k_ ∨ w.heap.size ≤ k_) ∧ some k_ ≠ (v290 : Value).ownBlock)) k_ ∧ some k_ ≠ (v293 : Value).ownBlock) rfl rfl ?aO ?aR (fun _ hk => hk) ?aF ?aB ?aS ?aL ?_; (case aR => exact (by skip; exact Kd.V_F (Kd.V_mono (ok' := (fun k_ => ((fun k_ => (P1_ k_ ∨ w.heap.size ≤ k_) ∧ some k_ ≠ (v290 : Value).ownBlock)) k_ ∧ some k_ ≠ (v293 : Value).ownBlock)) (HO_1.out) (fun k_ hk => ⟨⟨hk.1.1, hk.1.2⟩, hk.2⟩)))); (case aB => exact (by repeat (first | (with_reducible first | exact HB.out | apply below_alloc | apply pw_below_drewN | apply below_drew1) | exact HB.out))); (case aF => exact (fun k_ hk => ⟨(.inr (Nat.le_trans (below_size (by repeat (first | (with_reducible first | exact HB.out | apply below_alloc | apply pw_below_drewN | apply below_drew1) | exact HB.out))) hk)), Kd.fresh' (Kd.R_lt (by (with_reducible repeat (first | apply Kd.R_alloc | apply Kd.R_drewN | apply Kd.R_drew)); exact HO291.out)) k_ hk⟩)); (case aO => exact (by (with_reducible repeat (first | apply Kd.N_alloc | apply Kd.N_drewN | apply Kd.N_drew)); exact HO294.out)); (case aS => exact (below_size (by repeat (first | (with_reducible first | exact HB.out | apply below_alloc | apply pw_below_drewN | apply below_drew1) | exact HB.out)))); (case aL => have := LMc26.out; omega); intro v296 w35 ho hb hg hat; rw [← Ny295.out] at ho; have n0_ := Aside0.mk (Kd.V_afterv (ok := (fun k_ => (P1_ k_ ∨ w.heap.size ≤ k_) ∧ some k_ ≠ (v290 : Value).ownBlock)) (by (with_reducible repeat (first | apply Kd.V_alloc | apply Kd.V_drewN | apply Kd.V_drew)); exact HO_1.out) hg hat); have n1_ := Aside0.mk (Kd.R_over' (by (with_reducible repeat (first | apply Kd.R_alloc | apply Kd.R_drewN | apply Kd.R_drew)); exact HO291.out) (Kd.N_typed (by (with_reducible repeat (first | apply Kd.N_alloc | apply Kd.N_drewN | apply Kd.N_drew)); exact HO294.out)) (by decide) hg); have n2_ := Aside0.mk (hb); have n3_ := Aside0.mk (ho); clear HO_1; clear HO291; clear HB; clear HO294; have HO_1 := n0_; have HO291 := n1_; have HB := n2_; have HO297 := n3_; clear n0_ n1_ n2_ n3_; clear ho hb hg hat) | ((with_reducible refine gate_builtin (b := .append) (xs := #[.tmp 66, .tmp 69]) rfl ?_); (try (refine gate_guard (by rfl) ?_; dsimp only)); at_builtin; refine Kd.N_append k34 (w0 := w) w.heap.size rfl (.tmp 66) (.tmp 69) 23 34 (.agg #[(.string ⟨#[]⟩), (.int .i64 0), (.slice none 0 0), (.slice none 0 0)]) 72 rfl Tryd.underlying23 info34 rfl (by decide) (by omega) v296 y295 (⟨a2, 1, ([] : List ByteArray), ([] : List (S68))⟩ : S34) [.string a2, .int .i64 1, .slice none 0 0, .slice none 0 0] (fun k_ => (P1_ k_ ∨ w.heap.size ≤ k_) ∧ some k_ ≠ (v290 : Value).ownBlock) (fun k_ => ((fun k_ => (P1_ k_ ∨ w.heap.size ≤ k_) ∧ some k_ ≠ (v290 : Value).ownBlock)) k_ ∧ some k_ ≠ (v296 : Value).ownBlock) rfl rfl ?aP (fun _ hk => hk) ?aF ?aO ?aB ?aS ?aL ?_; (case aP => exact (k34_mkF _ _ (⟨a2, 1, ([] : List ByteArray), ([] : List (S68))⟩ : S34) (Nat.le_refl _) (Kd.F_nil _ _ _) (Nat.le_refl _) (Kd.F_nil _ _ _))); (case aB => exact (by repeat (first | (with_reducible first | exact HB.out | apply below_alloc | apply pw_below_drewN | apply below_drew1) | exact HB.out))); (case aF => exact (fun k_ hk => ⟨(.inr (Nat.le_trans (below_size (by repeat (first | (with_reducible first | exact HB.out | apply below_alloc | apply pw_below_drewN | apply below_drew1) | exact HB.out))) hk)), Kd.fresh' (Kd.R_lt (by (with_reducible repeat (first | apply Kd.R_alloc | apply Kd.R_drewN | apply Kd.R_drew)); exact HO291.out)) k_ hk⟩)); (case aO => exact (by (with_reducible repeat (first | apply Kd.N_alloc | apply Kd.N_drewN | apply Kd.N_drew)); exact HO297.out)); (case aS => exact (below_size (by repeat (first | (with_reducible first | exact HB.out | apply below_alloc | apply pw_below_drewN | apply below_drew1) | exact HB.out)))); (case aL => have := LMc27.out; omega); intro v299 w36 ho hb hg hat; rw [← Ny298.out] at ho; have n0_ := Aside0.mk (Kd.V_afterv (ok := (fun k_ => (P1_ k_ ∨ w.heap.size ≤ k_) ∧ some k_ ≠ (v290 : Value).ownBlock)) (by (with_reducible repeat (first | apply Kd.V_alloc | apply Kd.V_drewN | apply Kd.V_drew)); exact HO_1.out) hg hat); have n1_ := Aside0.mk (Kd.R_over' (by (with_reducible repeat (first | apply Kd.R_alloc | apply Kd.R_drewN | apply Kd.R_drew)); exact HO291.out) (Kd.N_typed (by (with_reducible repeat (first | apply Kd.N_alloc | apply Kd.N_drewN | apply Kd.N_drew)); exact HO297.out)) (by decide) hg); have n2_ := Aside0.mk (hb); have n3_ := Aside0.mk (ho); clear HO_1; clear HO291; clear HB; clear HO297; have HO_1 := n0_; have HO291 := n1_; have HB := n2_; have HO300 := n3_; clear n0_ n1_ n2_ n3_; clear ho hb hg hat; obtain ⟨Ao37, co37, eo37⟩ := Kd.N_slice HO300.out; subst eo37) | (go_at_call 10; (with_reducible refine (plan_Order.calls k2 _ _ l0 _ _ y298 t301 t302 t303 _ ?side1 ?side2 ?side3 ?side4 A28.out).mono ?_); (case side1 => repeat (first | exact (Kd.C_below HR0.out HB.out) | (with_reducible refine Kd.C_alloc ?_ _) | (with_reducible refine Kd.C_drewN ?_ _) | (with_reducible refine Kd.C_drew ?_))); (case side2 => exact HC0.out); (case side3 => repeat (first | exact (Kd.N_reads' HO300.out).2.2 | (with_reducible refine Kd.C_alloc ?_ _) | (with_reducible refine Kd.C_drewN ?_ _) | (with_reducible refine Kd.C_drew ?_))); (case side4 => exact (Kd.N_reads' HO300.out).2.1); rintro e w38 ⟨v304, rfl, ho0, hb⟩; have n0_ := Aside0.mk (Kd.V_elder' (by (with_reducible repeat (first | apply Kd.V_alloc | apply Kd.V_drewN | apply Kd.V_drew)); exact HO_1.out) (Kd.R_base ho0) hb); have n1_ := Aside0.mk (Kd.R_elder' (by (with_reducible repeat (first | apply Kd.R_alloc | apply Kd.R_drewN | apply Kd.R_drew)); exact HO291.out) (Kd.R_base ho0) hb); have n2_ := Aside0.mk (Kd.N_elder' (by (with_reducible repeat (first | apply Kd.N_alloc | apply Kd.N_drewN | apply Kd.N_drew)); exact HO300.out) (Kd.R_base ho0) hb); have n3_ := Aside0.mk (Kd.R_lower (Kd.R_new' (Kd.R_newM (M := fun k_ => (w.heap.size ≤ k_)) ho0 (below_size (by repeat (first | (with_reducible first | exact HB.out | apply below_alloc | apply pw_below_drewN | apply below_drew1) | exact HB.out))) (fun k_ h_ => h_)) (Kd.R_lt (by (with_reducible repeat (first | apply Kd.R_alloc | apply Kd.R_drewN | apply Kd.R_drew)); exact HO291.out))) (below_size (by repeat (first | (with_reducible first | exact HB.out | apply below_alloc | apply pw_below_drewN | apply below_drew1) | exact HB.out)))); have n4_ := Aside0.mk (below_step (by repeat (first | (with_reducible first | exact HB.out | apply below_alloc | apply pw_below_drewN | apply below_drew1) | exact HB.out)) hb); clear HO_1; clear HO291; clear HO300; clear HB; have HO_1 := n0_; have HO291 := n1_; have HO300 := n2_; have HO305 := n3_; have HB := n4_; clear n0_ n1_ n2_ n3_ n4_; (try clear hb); (try clear hb2); (try clear hk); (try clear hi); (try clear ho0)) | (go_at_call 13; (with_reducible refine (monticuleref06_Class.calls k2 a2 true _ A29.out).mono ?_); rintro e w' ⟨rfl, ⟨nd, rfl⟩⟩; (try first | exact ⟨rfl, _, World.drewN_drewN _ _ _⟩ | exact ⟨rfl, _, Eq.trans (World.drewN_drewN _ _ _) (congrArg (World.drewN _) (Nat.add_assoc _ _ _))⟩)))
                    repeat (go_quiet (first | (go_at_call 10; (with_reducible refine (plan_Order.calls k2 _ _ l0 _ _ l1 t287 t288 t289 _ ?side1 ?side2 ?side3 ?side4 A25.out).mono ?_); (case side1 => repeat (first | exact (Kd.C_below HR0.out HB.out) | (with_reducible refine Kd.C_alloc ?_ _) | (with_reducible refine Kd.C_drewN ?_ _) | (with_reducible refine Kd.C_drew ?_))); (case side2 => exact HC0.out); (case side3 => repeat (first | exact (Kd.V_reads' HO_1.out).2.2 | (with_reducible refine Kd.C_alloc ?_ _) | (with_reducible refine Kd.C_drewN ?_ _) | (with_reducible refine Kd.C_drew ?_))); (case side4 => exact (Kd.V_reads' HO_1.out).2.1); rintro e w32 ⟨v290, rfl, ho0, hb⟩; have n0_ := Aside0.mk (Kd.V_elder' (by (with_reducible repeat (first | apply Kd.V_alloc | apply Kd.V_drewN | apply Kd.V_drew)); exact HO_1.out) (Kd.R_base ho0) hb); have n1_ := Aside0.mk (Kd.R_lower (Kd.R_newM (M := fun k_ => (w.heap.size ≤ k_)) ho0 (below_size (by repeat (first | (with_reducible first | exact HB.out | apply below_alloc | apply pw_below_drewN | apply below_drew1) | exact HB.out))) (fun k_ h_ => h_)) (below_size (by repeat (first | (with_reducible first | exact HB.out | apply below_alloc | apply pw_below_drewN | apply below_drew1) | exact HB.out)))); have n2_ := Aside0.mk (below_step (by repeat (first | (with_reducible first | exact HB.out | apply below_alloc | apply pw_below_drewN | apply below_drew1) | exact HB.out)) hb); clear HO_1; clear HB; have HO_1 := n0_; have HO291 := n1_; have HB := n2_; clear n0_ n1_ n2_; (try clear hb); (try clear hb2); (try clear hk); (try clear hi); (try clear ho0)) | ((with_reducible refine gate_dst (N := 64) rfl ?_); (try (refine gate_guard (by rfl) ?_; dsimp only)); refine Kd.N_lit k34 _ 34 ?hg (N' := 64) ?hd (xs := ([] : List (S34))) (inner := []) (ok := (fun k_ => (P1_ k_ ∨ w.heap.size ≤ k_) ∧ some k_ ≠ (v290 : Value).ownBlock)) (okp := (fun k_ => (P1_ k_ ∨ w.heap.size ≤ k_) ∧ some k_ ≠ (v290 : Value).ownBlock)) ?hr ?hp (fun _ hk => hk) ((show ∀ k_, w32.heap.size ≤ k_ → (fun k_ => (P1_ k_ ∨ w.heap.size ≤ k_) ∧ some k_ ≠ (v290 : Value).ownBlock) k_ from fun k_ hk => ⟨(.inr (Nat.le_trans (below_size (by repeat (first | (with_reducible first | exact HB.out | apply below_alloc | apply pw_below_drewN | apply below_drew1) | exact HB.out))) hk)), Kd.fresh' (Kd.R_lt (by (with_reducible repeat (first | apply Kd.R_alloc | apply Kd.R_drewN | apply Kd.R_drew)); exact HO291.out)) k_ hk⟩) _ (Nat.le_refl _)) (Below.refl _ _) (Nat.le_refl _) (by simp) ?_; (case hd => rfl); (case hg => rfl); (case hr => first | (go_simp; done) | (go_simp; rfl)); (case hp => exact (Reps.none _ _)); intro v293 w33 ho34 hb hg_ hnew_; clear hg_ hnew_; (first | rw [← Ny292.out] at ho34 | (simp only [Int.reduceToNat] at ho34; rw [← Ny292.out] at ho34)); have n0_ := Aside0.mk (Kd.V_elder' (by (with_reducible repeat (first | apply Kd.V_alloc | apply Kd.V_drewN | apply Kd.V_drew)); exact HO_1.out) (Kd.N_base ho34) hb); have n1_ := Aside0.mk (Kd.R_below (by (with_reducible repeat (first | apply Kd.R_alloc | apply Kd.R_drewN | apply Kd.R_drew)); exact HO291.out) hb); have n2_ := Aside0.mk (Kd.N_lower ho34 (below_size (by repeat (first | (with_reducible first | exact HB.out | apply below_alloc | apply pw_below_drewN | apply below_drew1) | exact HB.out)))); have n3_ := Aside0.mk (below_step (by repeat (first | (with_reducible first | exact HB.out | apply below_alloc | apply pw_below_drewN | apply below_drew1) | exact HB.out)) hb); clear HO_1; clear HO291; clear HB; have HO_1 := n0_; have HO291 := n1_; have HO294 := n2_; have HB := n3_; clear n0_ n1_ n2_ n3_; clear hb ho34) | ((with_reducible refine gate_builtin (b := .append) (xs := #[.tmp 64, .tmp 65]) rfl ?_); (try (refine gate_guard (by rfl) ?_; dsimp only)); at_builtin; refine Kd.N_append_rows k34 (w0 := w) w.heap.size rfl (.tmp 64) (.tmp 65) 23 34 (.agg #[(.string ⟨#[]⟩), (.int .i64 0), (.slice none 0 0), (.slice none 0 0)]) 72 rfl Tryd.underlying23 info34 rfl (by decide) (by omega) v293 y292 l1 _ _ _ (fun k_ => (P1_ k_ ∨ w.heap.size ≤ k_) ∧ some k_ ≠ (v290 : Value).ownBlock) (fun k_ => ((fun k_ => (P1_ k_ ∨ w.heap.size ≤ k_) ∧ some k_ ≠ (v290 : Value).ownBlock)) k_ ∧ some k_ ≠ (v293 : Value).ownBlock) rfl rfl ?aO ?aR (fun _ hk => hk) ?aF ?aB ?aS ?aL ?_; (case aR => exact (by skip; exact Kd.V_F (Kd.V_mono (ok' := (fun k_ => ((fun k_ => (P1_ k_ ∨ w.heap.size ≤ k_) ∧ some k_ ≠ (v290 : Value).ownBlock)) k_ ∧ some k_ ≠ (v293 : Value).ownBlock)) (HO_1.out) (fun k_ hk => ⟨⟨hk.1.1, hk.1.2⟩, hk.2⟩)))); (case aB => exact (by repeat (first | (with_reducible first | exact HB.out | apply below_alloc | apply pw_below_drewN | apply below_drew1) | exact HB.out))); (case aF => exact (fun k_ hk => ⟨(.inr (Nat.le_trans (below_size (by repeat (first | (with_reducible first | exact HB.out | apply below_alloc | apply pw_below_drewN | apply below_drew1) | exact HB.out))) hk)), Kd.fresh' (Kd.R_lt (by (with_reducible repeat (first | apply Kd.R_alloc | apply Kd.R_drewN | apply Kd.R_drew)); exact HO291.out)) k_ hk⟩)); (case aO => exact (by (with_reducible repeat (first | apply Kd.N_alloc | apply Kd.N_drewN | apply Kd.N_drew)); exact HO294.out)); (case aS => exact (below_size (by repeat (first | (with_reducible first | exact HB.out | apply below_alloc | apply pw_below_drewN | apply below_drew1) | exact HB.out)))); (case aL => have := LMc26.out; omega); intro v296 w35 ho hb hg hat; rw [← Ny295.out] at ho; have n0_ := Aside0.mk (Kd.V_afterv (ok := (fun k_ => (P1_ k_ ∨ w.heap.size ≤ k_) ∧ some k_ ≠ (v290 : Value).ownBlock)) (by (with_reducible repeat (first | apply Kd.V_alloc | apply Kd.V_drewN | apply Kd.V_drew)); exact HO_1.out) hg hat); have n1_ := Aside0.mk (Kd.R_over' (by (with_reducible repeat (first | apply Kd.R_alloc | apply Kd.R_drewN | apply Kd.R_drew)); exact HO291.out) (Kd.N_typed (by (with_reducible repeat (first | apply Kd.N_alloc | apply Kd.N_drewN | apply Kd.N_drew)); exact HO294.out)) (by decide) hg); have n2_ := Aside0.mk (hb); have n3_ := Aside0.mk (ho); clear HO_1; clear HO291; clear HB; clear HO294; have HO_1 := n0_; have HO291 := n1_; have HB := n2_; have HO297 := n3_; clear n0_ n1_ n2_ n3_; clear ho hb hg hat) | ((with_reducible refine gate_builtin (b := .append) (xs := #[.tmp 66, .tmp 69]) rfl ?_); (try (refine gate_guard (by rfl) ?_; dsimp only)); at_builtin; refine Kd.N_append k34 (w0 := w) w.heap.size rfl (.tmp 66) (.tmp 69) 23 34 (.agg #[(.string ⟨#[]⟩), (.int .i64 0), (.slice none 0 0), (.slice none 0 0)]) 72 rfl Tryd.underlying23 info34 rfl (by decide) (by omega) v296 y295 (⟨a2, 1, ([] : List ByteArray), ([] : List (S68))⟩ : S34) [.string a2, .int .i64 1, .slice none 0 0, .slice none 0 0] (fun k_ => (P1_ k_ ∨ w.heap.size ≤ k_) ∧ some k_ ≠ (v290 : Value).ownBlock) (fun k_ => ((fun k_ => (P1_ k_ ∨ w.heap.size ≤ k_) ∧ some k_ ≠ (v290 : Value).ownBlock)) k_ ∧ some k_ ≠ (v296 : Value).ownBlock) rfl rfl ?aP (fun _ hk => hk) ?aF ?aO ?aB ?aS ?aL ?_; (case aP => exact (k34_mkF _ _ (⟨a2, 1, ([] : List ByteArray), ([] : List (S68))⟩ : S34) (Nat.le_refl _) (Kd.F_nil _ _ _) (Nat.le_refl _) (Kd.F_nil _ _ _))); (case aB => exact (by repeat (first | (with_reducible first | exact HB.out | apply below_alloc | apply pw_below_drewN | apply below_drew1) | exact HB.out))); (case aF => exact (fun k_ hk => ⟨(.inr (Nat.le_trans (below_size (by repeat (first | (with_reducible first | exact HB.out | apply below_alloc | apply pw_below_drewN | apply below_drew1) | exact HB.out))) hk)), Kd.fresh' (Kd.R_lt (by (with_reducible repeat (first | apply Kd.R_alloc | apply Kd.R_drewN | apply Kd.R_drew)); exact HO291.out)) k_ hk⟩)); (case aO => exact (by (with_reducible repeat (first | apply Kd.N_alloc | apply Kd.N_drewN | apply Kd.N_drew)); exact HO297.out)); (case aS => exact (below_size (by repeat (first | (with_reducible first | exact HB.out | apply below_alloc | apply pw_below_drewN | apply below_drew1) | exact HB.out)))); (case aL => have := LMc27.out; omega); intro v299 w36 ho hb hg hat; rw [← Ny298.out] at ho; have n0_ := Aside0.mk (Kd.V_afterv (ok := (fun k_ => (P1_ k_ ∨ w.heap.size ≤ k_) ∧ some k_ ≠ (v290 : Value).ownBlock)) (by (with_reducible repeat (first | apply Kd.V_alloc | apply Kd.V_drewN | apply Kd.V_drew)); exact HO_1.out) hg hat); have n1_ := Aside0.mk (Kd.R_over' (by (with_reducible repeat (first | apply Kd.R_alloc | apply Kd.R_drewN | apply Kd.R_drew)); exact HO291.out) (Kd.N_typed (by (with_reducible repeat (first | apply Kd.N_alloc | apply Kd.N_drewN | apply Kd.N_drew)); exact HO297.out)) (by decide) hg); have n2_ := Aside0.mk (hb); have n3_ := Aside0.mk (ho); clear HO_1; clear HO291; clear HB; clear HO297; have HO_1 := n0_; have HO291 := n1_; have HB := n2_; have HO300 := n3_; clear n0_ n1_ n2_ n3_; clear ho hb hg hat; obtain ⟨Ao37, co37, eo37⟩ := Kd.N_slice HO300.out; subst eo37) | (go_at_call 10; (with_reducible refine (plan_Order.calls k2 _ _ l0 _ _ y298 t301 t302 t303 _ ?side1 ?side2 ?side3 ?side4 A28.out).mono ?_); (case side1 => repeat (first | exact (Kd.C_below HR0.out HB.out) | (with_reducible refine Kd.C_alloc ?_ _) | (with_reducible refine Kd.C_drewN ?_ _) | (with_reducible refine Kd.C_drew ?_))); (case side2 => exact HC0.out); (case side3 => repeat (first | exact (Kd.N_reads' HO300.out).2.2 | (with_reducible refine Kd.C_alloc ?_ _) | (with_reducible refine Kd.C_drewN ?_ _) | (with_reducible refine Kd.C_drew ?_))); (case side4 => exact (Kd.N_reads' HO300.out).2.1); rintro e w38 ⟨v304, rfl, ho0, hb⟩; have n0_ := Aside0.mk (Kd.V_elder' (by (with_reducible repeat (first | apply Kd.V_alloc | apply Kd.V_drewN | apply Kd.V_drew)); exact HO_1.out) (Kd.R_base ho0) hb); have n1_ := Aside0.mk (Kd.R_elder' (by (with_reducible repeat (first | apply Kd.R_alloc | apply Kd.R_drewN | apply Kd.R_drew)); exact HO291.out) (Kd.R_base ho0) hb); have n2_ := Aside0.mk (Kd.N_elder' (by (with_reducible repeat (first | apply Kd.N_alloc | apply Kd.N_drewN | apply Kd.N_drew)); exact HO300.out) (Kd.R_base ho0) hb); have n3_ := Aside0.mk (Kd.R_lower (Kd.R_new' (Kd.R_newM (M := fun k_ => (w.heap.size ≤ k_)) ho0 (below_size (by repeat (first | (with_reducible first | exact HB.out | apply below_alloc | apply pw_below_drewN | apply below_drew1) | exact HB.out))) (fun k_ h_ => h_)) (Kd.R_lt (by (with_reducible repeat (first | apply Kd.R_alloc | apply Kd.R_drewN | apply Kd.R_drew)); exact HO291.out))) (below_size (by repeat (first | (with_reducible first | exact HB.out | apply below_alloc | apply pw_below_drewN | apply below_drew1) | exact HB.out)))); have n4_ := Aside0.mk (below_step (by repeat (first | (with_reducible first | exact HB.out | apply below_alloc | apply pw_below_drewN | apply below_drew1) | exact HB.out)) hb); clear HO_1; clear HO291; clear HO300; clear HB; have HO_1 := n0_; have HO291 := n1_; have HO300 := n2_; have HO305 := n3_; have HB := n4_; clear n0_ n1_ n2_ n3_ n4_; (try clear hb); (try clear hb2); (try clear hk); (try clear hi); (try clear ho0)) | (go_at_call 13; (with_reducible refine (monticuleref06_Class.calls k2 a2 true _ A29.out).mono ?_); rintro e w' ⟨rfl, ⟨nd, rfl⟩⟩; (try first | exact ⟨rfl, _, World.drewN_drewN _ _ _⟩ | exact ⟨rfl, _, Eq.trans (World.drewN_drewN _ _ _) (congrArg (World.drewN _) (Nat.add_assoc _ _ _))⟩))); go_upto_region 13 with (first | (go_at_call 10; (with_reducible refine (plan_Order.calls k2 _ _ l0 _ _ l1 t287 t288 t289 _ ?side1 ?side2 ?side3 ?side4 A25.out).mono ?_); (case side1 => repeat (first | exact (Kd.C_below HR0.out HB.out) | (with_reducible refine Kd.C_alloc ?_ _) | (with_reducible refine Kd.C_drewN ?_ _) | (with_reducible refine Kd.C_drew ?_))); (case side2 => exact HC0.out); (case side3 => repeat (first | exact (Kd.V_reads' HO_1.out).2.2 | (with_reducible refine Kd.C_alloc ?_ _) | (with_reducible refine Kd.C_drewN ?_ _) | (with_reducible refine Kd.C_drew ?_))); (case side4 => exact (Kd.V_reads' HO_1.out).2.1); rintro e w32 ⟨v290, rfl, ho0, hb⟩; have n0_ := Aside0.mk (Kd.V_elder' (by (with_reducible repeat (first | apply Kd.V_alloc | apply Kd.V_drewN | apply Kd.V_drew)); exact HO_1.out) (Kd.R_base ho0) hb); have n1_ := Aside0.mk (Kd.R_lower (Kd.R_newM (M := fun k_ => (w.heap.size ≤ k_)) ho0 (below_size (by repeat (first | (with_reducible first | exact HB.out | apply below_alloc | apply pw_below_drewN | apply below_drew1) | exact HB.out))) (fun k_ h_ => h_)) (below_size (by repeat (first | (with_reducible first | exact HB.out | apply below_alloc | apply pw_below_drewN | apply below_drew1) | exact HB.out)))); have n2_ := Aside0.mk (below_step (by repeat (first | (with_reducible first | exact HB.out | apply below_alloc | apply pw_below_drewN | apply below_drew1) | exact HB.out)) hb); clear HO_1; clear HB; have HO_1 := n0_; have HO291 := n1_; have HB := n2_; clear n0_ n1_ n2_; (try clear hb); (try clear hb2); (try clear hk); (try clear hi); (try clear ho0)) | ((with_reducible refine gate_dst (N := 64) rfl ?_); (try (refine gate_guard (by rfl) ?_; dsimp only)); refine Kd.N_lit k34 _ 34 ?hg (N' := 64) ?hd (xs := ([] : List (S34))) (inner := []) (ok := (fun k_ => (P1_ k_ ∨ w.heap.size ≤ k_) ∧ some k_ ≠ (v290 : Value).ownBlock)) (okp := (fun k_ => (P1_ k_ ∨ w.heap.size ≤ k_) ∧ some k_ ≠ (v290 : Value).ownBlock)) ?hr ?hp (fun _ hk => hk) ((show ∀ k_, w32.heap.size ≤ k_ → (fun k_ => (P1_ k_ ∨ w.heap.size ≤ k_) ∧ some k_ ≠ (v290 : Value).ownBlock) k_ from fun k_ hk => ⟨(.inr (Nat.le_trans (below_size (by repeat (first | (with_reducible first | exact HB.out | apply below_alloc | apply pw_below_drewN | apply below_drew1) | exact HB.out))) hk)), Kd.fresh' (Kd.R_lt (by (with_reducible repeat (first | apply Kd.R_alloc | apply Kd.R_drewN | apply Kd.R_drew)); exact HO291.out)) k_ hk⟩) _ (Nat.le_refl _)) (Below.refl _ _) (Nat.le_refl _) (by simp) ?_; (case hd => rfl); (case hg => rfl); (case hr => first | (go_simp; done) | (go_simp; rfl)); (case hp => exact (Reps.none _ _)); intro v293 w33 ho34 hb hg_ hnew_; clear hg_ hnew_; (first | rw [← Ny292.out] at ho34 | (simp only [Int.reduceToNat] at ho34; rw [← Ny292.out] at ho34)); have n0_ := Aside0.mk (Kd.V_elder' (by (with_reducible repeat (first | apply Kd.V_alloc | apply Kd.V_drewN | apply Kd.V_drew)); exact HO_1.out) (Kd.N_base ho34) hb); have n1_ := Aside0.mk (Kd.R_below (by (with_reducible repeat (first | apply Kd.R_alloc | apply Kd.R_drewN | apply Kd.R_drew)); exact HO291.out) hb); have n2_ := Aside0.mk (Kd.N_lower ho34 (below_size (by repeat (first | (with_reducible first | exact HB.out | apply below_alloc | apply pw_below_drewN | apply below_drew1) | exact HB.out)))); have n3_ := Aside0.mk (below_step (by repeat (first | (with_reducible first | exact HB.out | apply below_alloc | apply pw_below_drewN | apply below_drew1) | exact HB.out)) hb); clear HO_1; clear HO291; clear HB; have HO_1 := n0_; have HO291 := n1_; have HO294 := n2_; have HB := n3_; clear n0_ n1_ n2_ n3_; clear hb ho34) | ((with_reducible refine gate_builtin (b := .append) (xs := #[.tmp 64, .tmp 65]) rfl ?_); (try (refine gate_guard (by rfl) ?_; dsimp only)); at_builtin; refine Kd.N_append_rows k34 (w0 := w) w.heap.size rfl (.tmp 64) (.tmp 65) 23 34 (.agg #[(.string ⟨#[]⟩), (.int .i64 0), (.slice none 0 0), (.slice none 0 0)]) 72 rfl Tryd.underlying23 info34 rfl (by decide) (by omega) v293 y292 l1 _ _ _ (fun k_ => (P1_ k_ ∨ w.heap.size ≤ k_) ∧ some k_ ≠ (v290 : Value).ownBlock) (fun k_ => ((fun k_ => (P1_ k_ ∨ w.heap.size ≤ k_) ∧ some k_ ≠ (v290 : Value).ownBlock)) k_ ∧ some k_ ≠ (v293 : Value).ownBlock) rfl rfl ?aO ?aR (fun _ hk => hk) ?aF ?aB ?aS ?aL ?_; (case aR => exact (by skip; exact Kd.V_F (Kd.V_mono (ok' := (fun k_ => ((fun k_ => (P1_ k_ ∨ w.heap.size ≤ k_) ∧ some k_ ≠ (v290 : Value).ownBlock)) k_ ∧ some k_ ≠ (v293 : Value).ownBlock)) (HO_1.out) (fun k_ hk => ⟨⟨hk.1.1, hk.1.2⟩, hk.2⟩)))); (case aB => exact (by repeat (first | (with_reducible first | exact HB.out | apply below_alloc | apply pw_below_drewN | apply below_drew1) | exact HB.out))); (case aF => exact (fun k_ hk => ⟨(.inr (Nat.le_trans (below_size (by repeat (first | (with_reducible first | exact HB.out | apply below_alloc | apply pw_below_drewN | apply below_drew1) | exact HB.out))) hk)), Kd.fresh' (Kd.R_lt (by (with_reducible repeat (first | apply Kd.R_alloc | apply Kd.R_drewN | apply Kd.R_drew)); exact HO291.out)) k_ hk⟩)); (case aO => exact (by (with_reducible repeat (first | apply Kd.N_alloc | apply Kd.N_drewN | apply Kd.N_drew)); exact HO294.out)); (case aS => exact (below_size (by repeat (first | (with_reducible first | exact HB.out | apply below_alloc | apply pw_below_drewN | apply below_drew1) | exact HB.out)))); (case aL => have := LMc26.out; omega); intro v296 w35 ho hb hg hat; rw [← Ny295.out] at ho; have n0_ := Aside0.mk (Kd.V_afterv (ok := (fun k_ => (P1_ k_ ∨ w.heap.size ≤ k_) ∧ some k_ ≠ (v290 : Value).ownBlock)) (by (with_reducible repeat (first | apply Kd.V_alloc | apply Kd.V_drewN | apply Kd.V_drew)); exact HO_1.out) hg hat); have n1_ := Aside0.mk (Kd.R_over' (by (with_reducible repeat (first | apply Kd.R_alloc | apply Kd.R_drewN | apply Kd.R_drew)); exact HO291.out) (Kd.N_typed (by (with_reducible repeat (first | apply Kd.N_alloc | apply Kd.N_drewN | apply Kd.N_drew)); exact HO294.out)) (by decide) hg); have n2_ := Aside0.mk (hb); have n3_ := Aside0.mk (ho); clear HO_1; clear HO291; clear HB; clear HO294; have HO_1 := n0_; have HO291 := n1_; have HB := n2_; have HO297 := n3_; clear n0_ n1_ n2_ n3_; clear ho hb hg hat) | ((with_reducible refine gate_builtin (b := .append) (xs := #[.tmp 66, .tmp 69]) rfl ?_); (try (refine gate_guard (by rfl) ?_; dsimp only)); at_builtin; refine Kd.N_append k34 (w0 := w) w.heap.size rfl (.tmp 66) (.tmp 69) 23 34 (.agg #[(.string ⟨#[]⟩), (.int .i64 0), (.slice none 0 0), (.slice none 0 0)]) 72 rfl Tryd.underlying23 info34 rfl (by decide) (by omega) v296 y295 (⟨a2, 1, ([] : List ByteArray), ([] : List (S68))⟩ : S34) [.string a2, .int .i64 1, .slice none 0 0, .slice none 0 0] (fun k_ => (P1_ k_ ∨ w.heap.size ≤ k_) ∧ some k_ ≠ (v290 : Value).ownBlock) (fun k_ => ((fun k_ => (P1_ k_ ∨ w.heap.size ≤ k_) ∧ some k_ ≠ (v290 : Value).ownBlock)) k_ ∧ some k_ ≠ (v296 : Value).ownBlock) rfl rfl ?aP (fun _ hk => hk) ?aF ?aO ?aB ?aS ?aL ?_; (case aP => exact (k34_mkF _ _ (⟨a2, 1, ([] : List ByteArray), ([] : List (S68))⟩ : S34) (Nat.le_refl _) (Kd.F_nil _ _ _) (Nat.le_refl _) (Kd.F_nil _ _ _))); (case aB => exact (by repeat (first | (with_reducible first | exact HB.out | apply below_alloc | apply pw_below_drewN | apply below_drew1) | exact HB.out))); (case aF => exact (fun k_ hk => ⟨(.inr (Nat.le_trans (below_size (by repeat (first | (with_reducible first | exact HB.out | apply below_alloc | apply pw_below_drewN | apply below_drew1) | exact HB.out))) hk)), Kd.fresh' (Kd.R_lt (by (with_reducible repeat (first | apply Kd.R_alloc | apply Kd.R_drewN | apply Kd.R_drew)); exact HO291.out)) k_ hk⟩)); (case aO => exact (by (with_reducible repeat (first | apply Kd.N_alloc | apply Kd.N_drewN | apply Kd.N_drew)); exact HO297.out)); (case aS => exact (below_size (by repeat (first | (with_reducible first | exact HB.out | apply below_alloc | apply pw_below_drewN | apply below_drew1) | exact HB.out)))); (case aL => have := LMc27.out; omega); intro v299 w36 ho hb hg hat; rw [← Ny298.out] at ho; have n0_ := Aside0.mk (Kd.V_afterv (ok := (fun k_ => (P1_ k_ ∨ w.heap.size ≤ k_) ∧ some k_ ≠ (v290 : Value).ownBlock)) (by (with_reducible repeat (first | apply Kd.V_alloc | apply Kd.V_drewN | apply Kd.V_drew)); exact HO_1.out) hg hat); have n1_ := Aside0.mk (Kd.R_over' (by (with_reducible repeat (first | apply Kd.R_alloc | apply Kd.R_drewN | apply Kd.R_drew)); exact HO291.out) (Kd.N_typed (by (with_reducible repeat (first | apply Kd.N_alloc | apply Kd.N_drewN | apply Kd.N_drew)); exact HO297.out)) (by decide) hg); have n2_ := Aside0.mk (hb); have n3_ := Aside0.mk (ho); clear HO_1; clear HO291; clear HB; clear HO297; have HO_1 := n0_; have HO291 := n1_; have HB := n2_; have HO300 := n3_; clear n0_ n1_ n2_ n3_; clear ho hb hg hat; obtain ⟨Ao37, co37, eo37⟩ := Kd.N_slice HO300.out; subst eo37) | (go_at_call 10; (with_reducible refine (plan_Order.calls k2 _ _ l0 _ _ y298 t301 t302 t303 _ ?side1 ?side2 ?side3 ?side4 A28.out).mono ?_); (case side1 => repeat (first | exact (Kd.C_below HR0.out HB.out) | (with_reducible refine Kd.C_alloc ?_ _) | (with_reducible refine Kd.C_drewN ?_ _) | (with_reducible refine Kd.C_drew ?_))); (case side2 => exact HC0.out); (case side3 => repeat (first | exact (Kd.N_reads' HO300.out).2.2 | (with_reducible refine Kd.C_alloc ?_ _) | (with_reducible refine Kd.C_drewN ?_ _) | (with_reducible refine Kd.C_drew ?_))); (case side4 => exact (Kd.N_reads' HO300.out).2.1); rintro e w38 ⟨v304, rfl, ho0, hb⟩; have n0_ := Aside0.mk (Kd.V_elder' (by (with_reducible repeat (first | apply Kd.V_alloc | apply Kd.V_drewN | apply Kd.V_drew)); exact HO_1.out) (Kd.R_base ho0) hb); have n1_ := Aside0.mk (Kd.R_elder' (by (with_reducible repeat (first | apply Kd.R_alloc | apply Kd.R_drewN | apply Kd.R_drew)); exact HO291.out) (Kd.R_base ho0) hb); have n2_ := Aside0.mk (Kd.N_elder' (by (with_reducible repeat (first | apply Kd.N_alloc | apply Kd.N_drewN | apply Kd.N_drew)); exact HO300.out) (Kd.R_base ho0) hb); have n3_ := Aside0.mk (Kd.R_lower (Kd.R_new' (Kd.R_newM (M := fun k_ => (w.heap.size ≤ k_)) ho0 (below_size (by repeat (first | (with_reducible first | exact HB.out | apply below_alloc | apply pw_below_drewN | apply below_drew1) | exact HB.out))) (fun k_ h_ => h_)) (Kd.R_lt (by (with_reducible repeat (first | apply Kd.R_alloc | apply Kd.R_drewN | apply Kd.R_drew)); exact HO291.out))) (below_size (by repeat (first | (with_reducible first | exact HB.out | apply below_alloc | apply pw_below_drewN | apply below_drew1) | exact HB.out)))); have n4_ := Aside0.mk (below_step (by repeat (first | (with_reducible first | exact HB.out | apply below_alloc | apply pw_below_drewN | apply below_drew1) | exact HB.out)) hb); clear HO_1; clear HO291; clear HO300; clear HB; have HO_1 := n0_; have HO291 := n1_; have HO300 := n2_; have HO305 := n3_; have HB := n4_; clear n0_ n1_ n2_ n3_ n4_; (try clear hb); (try clear hb2); (try clear hk); (try clear hi); (try clear ho0)) | (go_at_call 13; (with_reducible refine (monticuleref06_Class.calls k2 a2 true _ A29.out).mono ?_); rintro e w' ⟨rfl, ⟨nd, rfl⟩⟩; (try first | exact ⟨rfl, _, World.drewN_drewN _ _ _⟩ | exact ⟨rfl, _, Eq.trans (World.drewN_drewN _ _ _) (congrArg (World.drewN _) (Nat.add_assoc _ _ _))⟩))))
                    (try simp only [Act.put, List.setIfInBounds_toArray, List.set_cons_zero, List.set_cons_succ])
                    go_cut [102] (fun v102 wc => ∃ (kq : Nat) (x102_30 : Bool), v102 = .bool x102_30 ∧ Aside0 (plMore.j2 kq l1 t287 t288 t301 t302 x102_30 = some r) ∧ Aside0 (kq ≤ k2) ∧ Aside0 (Kd.V k34 34 wc w.heap.size (fun k_ => (P1_ k_ ∨ w.heap.size ≤ k_) ∧ some k_ ≠ (v290 : Value).ownBlock ∧ some k_ ≠ (v304 : Value).ownBlock) (.slice A1 l1.length c1) l1) ∧ Aside0 (Kd.R (Kd.int .i64) 3 wc w.heap.size (fun k_ => (w.heap.size ≤ k_) ∧ some k_ ≠ (v304 : Value).ownBlock) v290 t287) ∧ Aside0 (Kd.R (Kd.int .i64) 3 wc w.heap.size (fun k_ => (w.heap.size ≤ k_) ∧ some k_ ≠ (v290 : Value).ownBlock) v304 t301) ∧ Aside0 (Below w.heap.size w wc))
                    case first =>
                      have H := HC31.out
                      clear HC31
                      by_cases c39 : t288 = t302
                      · rw [if_pos c39] at H
                        have c39b0 : (t288 == t302) = true := beq_iff_eq.mpr c39
                        have c39b1 : (t288 != t302) = false := bne_eq_false_iff_eq.mpr c39
                        clear c39
                        (first | rw [c39b0] | (simp only [i64_w, i32_w]; rw [c39b0]) | skip)
                        have H' := Aside0.mk H
                        clear H
                        go_wp2
                        repeat (go_quiet (fail); try go_wp2)
                        go_meet
                        case rel => exact ⟨_, ((t288 != 0)), (by first | rfl | (simp; done) | (simp [*]; done)), H', ⟨by have := HJ3.out; have := HK2.out; first | omega | exact Nat.le_refl _⟩, ⟨by (with_reducible repeat (first | apply Kd.V_alloc | apply Kd.V_drewN | apply Kd.V_drew)); exact Kd.V_mono HO_1.out (fun _ hk => ⟨hk.1.1.1, ⟨hk.1.1.2, hk.2⟩⟩)⟩, ⟨by (with_reducible repeat (first | apply Kd.R_alloc | apply Kd.R_drewN | apply Kd.R_drew)); exact Kd.R_mono HO291.out (fun _ hk => ⟨hk.1.1, hk.2⟩)⟩, ⟨by (with_reducible repeat (first | apply Kd.R_alloc | apply Kd.R_drewN | apply Kd.R_drew)); exact Kd.R_mono HO305.out (fun _ hk => ⟨hk.1.1, hk.2⟩)⟩, ⟨by repeat (first | (with_reducible first | exact HB.out | apply below_alloc | apply pw_below_drewN | apply below_drew1) | exact HB.out)⟩⟩
                      · rw [if_neg c39] at H
                        have c39b0 : (t288 == t302) = false := beq_eq_false_iff_ne.mpr c39
                        have c39b1 : (t288 != t302) = true := bne_iff_ne.mpr c39
                        (first | rw [c39b0] | (simp only [i64_w, i32_w]; rw [c39b0]) | skip)
                        have H' := Aside0.mk H
                        clear H
                        go_wp2
                        repeat (go_quiet (fail); try go_wp2)
                        go_meet
                        case rel => exact ⟨_, (true), (by first | rfl | (simp; done) | (simp [*]; done)), H', ⟨by have := HJ3.out; have := HK2.out; first | omega | exact Nat.le_refl _⟩, ⟨by (with_reducible repeat (first | apply Kd.V_alloc | apply Kd.V_drewN | apply Kd.V_drew)); exact Kd.V_mono HO_1.out (fun _ hk => ⟨hk.1.1.1, ⟨hk.1.1.2, hk.2⟩⟩)⟩, ⟨by (with_reducible repeat (first | apply Kd.R_alloc | apply Kd.R_drewN | apply Kd.R_drew)); exact Kd.R_mono HO291.out (fun _ hk => ⟨hk.1.1, hk.2⟩)⟩, ⟨by (with_reducible repeat (first | apply Kd.R_alloc | apply Kd.R_drewN | apply Kd.R_drew)); exact Kd.R_mono HO305.out (fun _ hk => ⟨hk.1.1, hk.2⟩)⟩, ⟨by repeat (first | (with_reducible first | exact HB.out | apply below_alloc | apply pw_below_drewN | apply below_drew1) | exact HB.out)⟩⟩
                    case rest =>
                      clear HC31
                      try clear c1
                      try clear c2
                      try clear p2
                      try clear q2
                      try clear hx2
                      try clear c3
                      try clear c5
                      try clear c6
                      try clear p6
                      try clear c8
                      try clear c10
                      try clear c17
                      try clear c20
                      try clear c20b0
                      try clear c21
                      try clear c21b0
                      try clear c22
                      try clear c22b0
                      try clear c22b1
                      try clear c24
                      try clear c26
                      try clear c27
                      try clear c28
                      try clear p28
                      try clear q28
                      try clear hx28
                      try clear c30
                      try clear c39
                      try clear c39b0
                      try clear c39b1
                      try clear hx284_0
                      try clear hx284_1
                      try clear hx284_2
                      try clear hx284_3
                      try clear hx285_0
                      try clear hx285_1
                      try clear hx285_2
                      try clear hx285_3
                      try clear p2
                      try clear p284
                      try clear p285
                      try clear q284
                      try clear q285
                      obtain ⟨kq, x102_30, rfl, HA, HJ30, HO_1, HO_8, HO_12, HB⟩ := hcut
                      cases kq with
                      | zero => exact absurd HA.out (by simp [plMore.j2])
                      | succ kj30 =>
                        have H := HA.out
                        clear HA
                        simp only [plMore.j2] at H
                        by_cases c40 : x102_30 = true
                        · subst c40
                          have H1 : (some (t288 == t302)) = some r := by rw [if_pos rfl] at H; exact H
                          clear H
                          have H := H1
                          clear H1
                          obtain rfl := Option.some.inj H
                          go_wp2
                          repeat (go_quiet (fail); try go_wp2)
                          go_ret
                          exact ⟨by first | rfl | (simp [errW_none, errW_some] <;> rfl) | (simp [*, errW_none, errW_some] <;> rfl), by repeat (first | (with_reducible first | exact HB.out | apply below_alloc | apply pw_below_drewN | apply below_drew1) | exact HB.out)⟩
                        · replace c40 := Bool.eq_false_iff.mpr c40
                          subst c40
                          have H1 : (plMore.l1 kj30 l1 t287 t301 0 0) = some r := by rw [if_neg (show ¬ (false = true) by decide)] at H; exact H
                          clear H
                          have H := H1
                          clear H1
                          have H' := Aside0.mk H
                          clear H
                          go_wp2
                          repeat (go_quiet (fail); try go_wp2)
                          go_loopg [15, 16] kj30 (fun kq v15 v16 w' => ∃ (x15_4 : Int) (x16_4 : Int), v15 = .int .i64 x15_4 ∧ v16 = .int .i64 x16_4 ∧ Aside0 (plMore.l1 kq l1 t287 t301 x15_4 x16_4 = some r) ∧ Aside0 (kq ≤ kj30) ∧ Aside0 (Kd.V k34 34 w' w.heap.size (fun k_ => (P1_ k_ ∨ w.heap.size ≤ k_) ∧ some k_ ≠ (v290 : Value).ownBlock ∧ some k_ ≠ (v304 : Value).ownBlock) (.slice A1 l1.length c1) l1) ∧ Aside0 (Kd.R (Kd.int .i64) 3 w' w.heap.size (fun k_ => (w.heap.size ≤ k_) ∧ some k_ ≠ (v304 : Value).ownBlock) v290 t287) ∧ Aside0 (Kd.R (Kd.int .i64) 3 w' w.heap.size (fun k_ => (w.heap.size ≤ k_) ∧ some k_ ≠ (v290 : Value).ownBlock) v304 t301) ∧ Aside0 (Below w.heap.size w w'))
                          case atStart => exact ⟨(0), (0), (by first | rfl | (simp; done) | (simp [*]; done)), (by first | rfl | (simp; done) | (simp [*]; done)), H', ⟨Nat.le_refl _⟩, ⟨by (with_reducible repeat (first | apply Kd.V_alloc | apply Kd.V_drewN | apply Kd.V_drew)); exact HO_1.out⟩, ⟨by (with_reducible repeat (first | apply Kd.R_alloc | apply Kd.R_drewN | apply Kd.R_drew)); exact HO_8.out⟩, ⟨by (with_reducible repeat (first | apply Kd.R_alloc | apply Kd.R_drewN | apply Kd.R_drew)); exact HO_12.out⟩, ⟨by repeat (first | (with_reducible first | exact HB.out | apply below_alloc | apply pw_below_drewN | apply below_drew1) | exact HB.out)⟩⟩
                          case round =>
                            clear H'
                            try clear c1
                            try clear c2
                            try clear p2
                            try clear q2
                            try clear hx2
                            try clear c3
                            try clear c4
                            try clear c5
                            try clear c6
                            try clear p6
                            try clear c8
                            try clear c10
                            try clear c17
                            try clear c20
                            try clear c20b0
                            try clear c21
                            try clear c21b0
                            try clear c22
                            try clear c22b0
                            try clear c22b1
                            try clear c24
                            try clear c26
                            try clear c27
                            try clear c28
                            try clear p28
                            try clear q28
                            try clear hx28
                            try clear c30
                            try clear c39
                            try clear c39b0
                            try clear c39b1
                            try clear c40
                            try clear hx284_0
                            try clear hx284_1
                            try clear hx284_2
                            try clear hx284_3
                            try clear hx285_0
                            try clear hx285_1
                            try clear hx285_2
                            try clear hx285_3
                            try clear p2
                            try clear p28
                            try clear p284
                            try clear p285
                            try clear p6
                            try clear q2
                            try clear q28
                            try clear q284
                            try clear q285
                            obtain ⟨x15_4, x16_4, rfl, rfl, HA, HK4, HO_1, HO_8, HO_12, HB⟩ := hrel
                            cases gk with
                            | zero => exact absurd HA.out (by simp [plMore.l1])
                            | succ k4 =>
                              have H := HA.out
                              clear HA
                              simp only [plMore.l1] at H
                              by_cases c41 : x16_4 < (t301.length : Int)
                              · rw [if_pos c41] at H
                                have c41b0 : decide (x16_4 < (t301.length : Int)) = true := decide_eq_true c41
                                clear c41
                                by_cases c42 : 0 ≤ x16_4
                                · rw [if_pos c42] at H
                                  have c42b0 : decide (0 ≤ x16_4) = true := decide_eq_true c42
                                  clear c42
                                  by_cases c43 : (rd t301 x16_4) = (l1.length : Int)
                                  · rw [if_pos c43] at H
                                    have c43b0 : ((rd t301 x16_4) == (l1.length : Int)) = true := beq_iff_eq.mpr c43
                                    have c43b1 : ((rd t301 x16_4) != (l1.length : Int)) = false := bne_eq_false_iff_eq.mpr c43
                                    clear c43
                                    have H' := Aside0.mk H
                                    clear H
                                    obtain ⟨Ao44, co44, eo44⟩ := Kd.R_slice HO_12.out
                                    subst eo44
                                    have p307 : 0 ≤ (x16_4 : Int) := of_decide_eq_true (by first | (with_reducible assumption) | assumption)
                                    have q307 : x16_4 < (t301.length : Int) := of_decide_eq_true (by first | (with_reducible assumption) | assumption)
                                    obtain ⟨ad307, e307, hx307_0⟩ := Kd.at_int (Kd.R_reads' HO_12.out).2.2 x16_4 p307 q307
                                    cases e307
                                    replace p307 := eq_true p307
                                    replace q307 := eq_true q307
                                    go_wp2
                                    repeat (go_quiet (fail); try go_wp2)
                                    go_roundg k4
                                    case measure => have := HJ3.out; have := HK2.out; have := HJ30.out; have := HK4.out; omega
                                    case rel => exact ⟨(x15_4), (wrap64 (x16_4 + 1)), (by first | rfl | (simp; done) | (simp [*]; done)), (by first | rfl | (simp; done) | (simp [*]; done)), H', ⟨by have := HJ3.out; have := HK2.out; have := HJ30.out; have := HK4.out; omega⟩, ⟨by (with_reducible repeat (first | apply Kd.V_alloc | apply Kd.V_drewN | apply Kd.V_drew)); exact HO_1.out⟩, ⟨by (with_reducible repeat (first | apply Kd.R_alloc | apply Kd.R_drewN | apply Kd.R_drew)); exact HO_8.out⟩, ⟨by (with_reducible repeat (first | apply Kd.R_alloc | apply Kd.R_drewN | apply Kd.R_drew)); exact HO_12.out⟩, ⟨by repeat (first | (with_reducible first | exact HB.out | apply below_alloc | apply pw_below_drewN | apply below_drew1) | exact HB.out)⟩⟩
                                  · rw [if_neg c43] at H
                                    have c43b0 : ((rd t301 x16_4) == (l1.length : Int)) = false := beq_eq_false_iff_ne.mpr c43
                                    have c43b1 : ((rd t301 x16_4) != (l1.length : Int)) = true := bne_iff_ne.mpr c43
                                    by_cases c45 : x15_4 ≥ (t287.length : Int)
                                    · rw [if_pos c45] at H
                                      have c45b0 : decide ((t287.length : Int) ≤ x15_4) = true := decide_eq_true c45
                                      clear c45
                                      obtain rfl := Option.some.inj H
                                      obtain ⟨Ao46, co46, eo46⟩ := Kd.R_slice HO_12.out
                                      subst eo46
                                      have p307 : 0 ≤ (x16_4 : Int) := of_decide_eq_true (by first | (with_reducible assumption) | assumption)
                                      have q307 : x16_4 < (t301.length : Int) := of_decide_eq_true (by first | (with_reducible assumption) | assumption)
                                      obtain ⟨ad307, e307, hx307_0⟩ := Kd.at_int (Kd.R_reads' HO_12.out).2.2 x16_4 p307 q307
                                      cases e307
                                      replace p307 := eq_true p307
                                      replace q307 := eq_true q307
                                      obtain ⟨Ao47, co47, eo47⟩ := Kd.R_slice HO_8.out
                                      subst eo47
                                      go_wp2
                                      repeat (go_quiet (fail); try go_wp2)
                                      go_ret
                                      exact ⟨by first | rfl | (simp [errW_none, errW_some] <;> rfl) | (simp [*, errW_none, errW_some] <;> rfl), by repeat (first | (with_reducible first | exact HB.out | apply below_alloc | apply pw_below_drewN | apply below_drew1) | exact HB.out)⟩
                                    · rw [if_neg c45] at H
                                      have c45b0 : decide ((t287.length : Int) ≤ x15_4) = false := decide_eq_false c45
                                      clear c45
                                      by_cases c48 : 0 ≤ x15_4
                                      · rw [if_pos c48] at H
                                        have c48b0 : decide (0 ≤ x15_4) = true := decide_eq_true c48
                                        clear c48
                                        by_cases c49 : x15_4 < (t287.length : Int)
                                        · rw [if_pos c49] at H
                                          have c49b0 : decide (x15_4 < (t287.length : Int)) = true := decide_eq_true c49
                                          clear c49
                                          by_cases c50 : (rd t287 x15_4) = (rd t301 x16_4)
                                          · rw [if_pos c50] at H
                                            have c50b0 : ((rd t287 x15_4) == (rd t301 x16_4)) = true := beq_iff_eq.mpr c50
                                            have c50b1 : ((rd t287 x15_4) != (rd t301 x16_4)) = false := bne_eq_false_iff_eq.mpr c50
                                            clear c50
                                            have H' := Aside0.mk H
                                            clear H
                                            obtain ⟨Ao51, co51, eo51⟩ := Kd.R_slice HO_12.out
                                            subst eo51
                                            have p307 : 0 ≤ (x16_4 : Int) := of_decide_eq_true (by first | (with_reducible assumption) | assumption)
                                            have q307 : x16_4 < (t301.length : Int) := of_decide_eq_true (by first | (with_reducible assumption) | assumption)
                                            obtain ⟨ad307, e307, hx307_0⟩ := Kd.at_int (Kd.R_reads' HO_12.out).2.2 x16_4 p307 q307
                                            cases e307
                                            replace p307 := eq_true p307
                                            replace q307 := eq_true q307
                                            obtain ⟨Ao52, co52, eo52⟩ := Kd.R_slice HO_8.out
                                            subst eo52
                                            have p308 : 0 ≤ (x15_4 : Int) := of_decide_eq_true (by first | (with_reducible assumption) | assumption)
                                            have q308 : x15_4 < (t287.length : Int) := of_decide_eq_true (by first | (with_reducible assumption) | assumption)
                                            obtain ⟨ad308, e308, hx308_0⟩ := Kd.at_int (Kd.R_reads' HO_8.out).2.2 x15_4 p308 q308
                                            cases e308
                                            replace p308 := eq_true p308
                                            replace q308 := eq_true q308
                                            have p309 : 0 ≤ (x16_4 : Int) := of_decide_eq_true (by first | (with_reducible assumption) | assumption)
                                            have q309 : x16_4 < (t301.length : Int) := of_decide_eq_true (by first | (with_reducible assumption) | assumption)
                                            obtain ⟨ad309, e309, hx309_0⟩ := Kd.at_int (Kd.R_reads' HO_12.out).2.2 x16_4 p309 q309
                                            obtain rfl : ad307 = ad309 := (by injection e309)
                                            replace p309 := eq_true p309
                                            replace q309 := eq_true q309
                                            go_wp2
                                            repeat (go_quiet (fail); try go_wp2)
                                            go_roundg k4
                                            case measure => have := HJ3.out; have := HK2.out; have := HJ30.out; have := HK4.out; omega
                                            case rel => exact ⟨(wrap64 (x15_4 + 1)), (wrap64 (x16_4 + 1)), (by first | rfl | (simp; done) | (simp [*]; done)), (by first | rfl | (simp; done) | (simp [*]; done)), H', ⟨by have := HJ3.out; have := HK2.out; have := HJ30.out; have := HK4.out; omega⟩, ⟨by (with_reducible repeat (first | apply Kd.V_alloc | apply Kd.V_drewN | apply Kd.V_drew)); exact HO_1.out⟩, ⟨by (with_reducible repeat (first | apply Kd.R_alloc | apply Kd.R_drewN | apply Kd.R_drew)); exact HO_8.out⟩, ⟨by (with_reducible repeat (first | apply Kd.R_alloc | apply Kd.R_drewN | apply Kd.R_drew)); exact HO_12.out⟩, ⟨by repeat (first | (with_reducible first | exact HB.out | apply below_alloc | apply pw_below_drewN | apply below_drew1) | exact HB.out)⟩⟩
                                          · rw [if_neg c50] at H
                                            have c50b0 : ((rd t287 x15_4) == (rd t301 x16_4)) = false := beq_eq_false_iff_ne.mpr c50
                                            have c50b1 : ((rd t287 x15_4) != (rd t301 x16_4)) = true := bne_iff_ne.mpr c50
                                            obtain rfl := Option.some.inj H
                                            obtain ⟨Ao53, co53, eo53⟩ := Kd.R_slice HO_12.out
                                            subst eo53
                                            have p307 : 0 ≤ (x16_4 : Int) := of_decide_eq_true (by first | (with_reducible assumption) | assumption)
                                            have q307 : x16_4 < (t301.length : Int) := of_decide_eq_true (by first | (with_reducible assumption) | assumption)
                                            obtain ⟨ad307, e307, hx307_0⟩ := Kd.at_int (Kd.R_reads' HO_12.out).2.2 x16_4 p307 q307
                                            cases e307
                                            replace p307 := eq_true p307
                                            replace q307 := eq_true q307
                                            obtain ⟨Ao54, co54, eo54⟩ := Kd.R_slice HO_8.out
                                            subst eo54
                                            have p308 : 0 ≤ (x15_4 : Int) := of_decide_eq_true (by first | (with_reducible assumption) | assumption)
                                            have q308 : x15_4 < (t287.length : Int) := of_decide_eq_true (by first | (with_reducible assumption) | assumption)
                                            obtain ⟨ad308, e308, hx308_0⟩ := Kd.at_int (Kd.R_reads' HO_8.out).2.2 x15_4 p308 q308
                                            cases e308
                                            replace p308 := eq_true p308
                                            replace q308 := eq_true q308
                                            have p309 : 0 ≤ (x16_4 : Int) := of_decide_eq_true (by first | (with_reducible assumption) | assumption)
                                            have q309 : x16_4 < (t301.length : Int) := of_decide_eq_true (by first | (with_reducible assumption) | assumption)
                                            obtain ⟨ad309, e309, hx309_0⟩ := Kd.at_int (Kd.R_reads' HO_12.out).2.2 x16_4 p309 q309
                                            obtain rfl : ad307 = ad309 := (by injection e309)
                                            replace p309 := eq_true p309
                                            replace q309 := eq_true q309
                                            go_wp2
                                            repeat (go_quiet (fail); try go_wp2)
                                            go_ret
                                            exact ⟨by first | rfl | (simp [errW_none, errW_some] <;> rfl) | (simp [*, errW_none, errW_some] <;> rfl), by repeat (first | (with_reducible first | exact HB.out | apply below_alloc | apply pw_below_drewN | apply below_drew1) | exact HB.out)⟩
                                        · rw [if_neg c49] at H
                                          exact absurd H (by simp)
                                      · rw [if_neg c48] at H
                                        exact absurd H (by simp)
                                · rw [if_neg c42] at H
                                  exact absurd H (by simp)
                              · rw [if_neg c41] at H
                                have c41b0 : decide (x16_4 < (t301.length : Int)) = false := decide_eq_false c41
                                clear c41
                                by_cases c55 : x15_4 = (t287.length : Int)
                                · rw [if_pos c55] at H
                                  have c55b0 : (x15_4 == (t287.length : Int)) = true := beq_iff_eq.mpr c55
                                  have c55b1 : (x15_4 != (t287.length : Int)) = false := bne_eq_false_iff_eq.mpr c55
                                  clear c55
                                  obtain rfl := Option.some.inj H
                                  obtain ⟨Ao56, co56, eo56⟩ := Kd.R_slice HO_12.out
                                  subst eo56
                                  obtain ⟨Ao57, co57, eo57⟩ := Kd.R_slice HO_8.out
                                  subst eo57
                                  go_wp2
                                  repeat (go_quiet (fail); try go_wp2)
                                  go_ret
                                  exact ⟨by first | rfl | (simp [errW_none, errW_some] <;> rfl) | (simp [*, errW_none, errW_some] <;> rfl), by repeat (first | (with_reducible first | exact HB.out | apply below_alloc | apply pw_below_drewN | apply below_drew1) | exact HB.out)⟩
                                · rw [if_neg c55] at H
                                  have c55b0 : (x15_4 == (t287.length : Int)) = false := beq_eq_false_iff_ne.mpr c55
                                  have c55b1 : (x15_4 != (t287.length : Int)) = true := bne_iff_ne.mpr c55
                                  obtain rfl := Option.some.inj H
                                  obtain ⟨Ao58, co58, eo58⟩ := Kd.R_slice HO_12.out
                                  subst eo58
                                  obtain ⟨Ao59, co59, eo59⟩ := Kd.R_slice HO_8.out
                                  subst eo59
                                  go_wp2
                                  repeat (go_quiet (fail); try go_wp2)
                                  go_ret
                                  exact ⟨by first | rfl | (simp [errW_none, errW_some] <;> rfl) | (simp [*, errW_none, errW_some] <;> rfl), by repeat (first | (with_reducible first | exact HB.out | apply below_alloc | apply pw_below_drewN | apply below_drew1) | exact HB.out)⟩
                  · replace c30 := Bool.eq_false_iff.mpr c30
                    subst c30
                    have H1 : (if t288 = 0 then (if t302 = 2 then (some (t303.toList == a2.toList)) else (some false)) else (if t302 = 0 then (if t302 = 2 then (some (t303.toList == a2.toList)) else (some false)) else (some true))) = some r := by rw [if_neg (show ¬ (false = true) by decide)] at H; exact H
                    clear H
                    have H := H1
                    clear H1
                    by_cases c60 : t288 = 0
                    · rw [if_pos c60] at H
                      have c60b0 : (t288 == 0) = true := beq_iff_eq.mpr c60
                      have c60b1 : (t288 != 0) = false := bne_eq_false_iff_eq.mpr c60
                      clear c60
                      by_cases c61 : t302 = 2
                      · rw [if_pos c61] at H
                        have c61b0 : (t302 == 2) = true := beq_iff_eq.mpr c61
                        have c61b1 : (t302 != 2) = false := bne_eq_false_iff_eq.mpr c61
                        clear c61
                        obtain rfl := Option.some.inj H
                        go_wp2_with (first | (go_at_call 10; (with_reducible refine (plan_Order.calls k2 _ _ l0 _ _ l1 t287 t288 t289 _ ?side1 ?side2 ?side3 ?side4 A25.out).mono ?_); (case side1 => repeat (first | exact (Kd.C_below HR0.out HB.out) | (with_reducible refine Kd.C_alloc ?_ _) | (with_reducible refine Kd.C_drewN ?_ _) | (with_reducible refine Kd.C_drew ?_))); (case side2 => exact HC0.out); (case side3 => repeat (first | exact (Kd.V_reads' HO_1.out).2.2 | (with_reducible refine Kd.C_alloc ?_ _) | (with_reducible refine Kd.C_drewN ?_ _) | (with_reducible refine Kd.C_drew ?_))); (case side4 => exact (Kd.V_reads' HO_1.out).2.1); rintro e w62 ⟨v290, rfl, ho0, hb⟩; have n0_ := Aside0.mk (Kd.V_elder' (by (with_reducible repeat (first | apply Kd.V_alloc | apply Kd.V_drewN | apply Kd.V_drew)); exact HO_1.out) (Kd.R_base ho0) hb); have n1_ := Aside0.mk (Kd.R_lower (Kd.R_newM (M := fun k_ => (w.heap.size ≤ k_)) ho0 (below_size (by repeat (first | (with_reducible first | exact HB.out | apply below_alloc | apply pw_below_drewN | apply below_drew1) | exact HB.out))) (fun k_ h_ => h_)) (below_size (by repeat (first | (with_reducible first | exact HB.out | apply below_alloc | apply pw_below_drewN | apply below_drew1) | exact HB.out)))); have n2_ := Aside0.mk (below_step (by repeat (first | (with_reducible first | exact HB.out | apply below_alloc | apply pw_below_drewN | apply below_drew1) | exact HB.out)) hb); clear HO_1; clear HB; have HO_1 := n0_; have HO291 := n1_; have HB := n2_; clear n0_ n1_ n2_; (try clear hb); (try clear hb2); (try clear hk); (try clear hi); (try clear ho0)) | ((with_reducible refine gate_dst (N := 64) rfl ?_); (try (refine gate_guard (by rfl) ?_; dsimp only)); refine Kd.N_lit k34 _ 34 ?hg (N' := 64) ?hd (xs := ([] : List (S34))) (inner := []) (ok := (fun k_ => (P1_ k_ ∨ w.heap.size ≤ k_) ∧ some k_ ≠ (v290 : Value).ownBlock)) (okp := (fun k_ => (P1_ k_ ∨ w.heap.size ≤ k_) ∧ some k_ ≠ (v290 : Value).ownBlock)) ?hr ?hp (fun _ hk => hk) ((show ∀ k_, w62.heap.size ≤ k_ → (fun k_ => (P1_ k_ ∨ w.heap.size ≤ k_) ∧ some k_ ≠ (v290 : Value).ownBlock) k_ from fun k_ hk => ⟨(.inr (Nat.le_trans (below_size (by repeat (first | (with_reducible first | exact HB.out | apply below_alloc | apply pw_below_drewN | apply below_drew1) | exact HB.out))) hk)), Kd.fresh' (Kd.R_lt (by (with_reducible repeat (first | apply Kd.R_alloc | apply Kd.R_drewN | apply Kd.R_drew)); exact HO291.out)) k_ hk⟩) _ (Nat.le_refl _)) (Below.refl _ _) (Nat.le_refl _) (by simp) ?_; (case hd => rfl); (case hg => rfl); (case hr => first | (go_simp; done) | (go_simp; rfl)); (case hp => exact (Reps.none _ _)); intro v293 w63 ho64 hb hg_ hnew_; clear hg_ hnew_; (first | rw [← Ny292.out] at ho64 | (simp only [Int.reduceToNat] at ho64; rw [← Ny292.out] at ho64)); have n0_ := Aside0.mk (Kd.V_elder' (by (with_reducible repeat (first | apply Kd.V_alloc | apply Kd.V_drewN | apply Kd.V_drew)); exact HO_1.out) (Kd.N_base ho64) hb); have n1_ := Aside0.mk (Kd.R_below (by (with_reducible repeat (first | apply Kd.R_alloc | apply Kd.R_drewN | apply Kd.R_drew)); exact HO291.out) hb); have n2_ := Aside0.mk (Kd.N_lower ho64 (below_size (by repeat (first | (with_reducible first | exact HB.out | apply below_alloc | apply pw_below_drewN | apply below_drew1) | exact HB.out)))); have n3_ := Aside0.mk (below_step (by repeat (first | (with_reducible first | exact HB.out | apply below_alloc | apply pw_below_drewN | apply below_drew1) | exact HB.out)) hb); clear HO_1; clear HO291; clear HB; have HO_1 := n0_; have HO291 := n1_; have HO294 := n2_; have HB := n3_; clear n0_ n1_ n2_ n3_; clear hb ho64) | ((with_reducible refine gate_builtin (b := .append) (xs := #[.tmp 64, .tmp 65]) rfl ?_); (try (refine gate_guard (by rfl) ?_; dsimp only)); at_builtin; refine Kd.N_append_rows k34 (w0 := w) w.heap.size rfl (.tmp 64) (.tmp 65) 23 34 (.agg #[(.string ⟨#[]⟩), (.int .i64 0), (.slice none 0 0), (.slice none 0 0)]) 72 rfl Tryd.underlying23 info34 rfl (by decide) (by omega) v293 y292 l1 _ _ _ (fun k_ => (P1_ k_ ∨ w.heap.size ≤ k_) ∧ some k_ ≠ (v290 : Value).ownBlock) (fun k_ => ((fun k_ => (P1_ k_ ∨ w.heap.size ≤ k_) ∧ some k_ ≠ (v290 : Value).ownBlock)) k_ ∧ some k_ ≠ (v293 : Value).ownBlock) rfl rfl ?aO ?aR (fun _ hk => hk) ?aF ?aB ?aS ?aL ?_; (case aR => exact (by skip; exact Kd.V_F (Kd.V_mono (ok' := (fun k_ => ((fun k_ => (P1_ k_ ∨ w.heap.size ≤ k_) ∧ some k_ ≠ (v290 : Value).ownBlock)) k_ ∧ some k_ ≠ (v293 : Value).ownBlock)) (HO_1.out) (fun k_ hk => ⟨⟨hk.1.1, hk.1.2⟩, hk.2⟩)))); (case aB => exact (by repeat (first | (with_reducible first | exact HB.out | apply below_alloc | apply pw_below_drewN | apply below_drew1) | exact HB.out))); (case aF => exact (fun k_ hk => ⟨(.inr (Nat.le_trans (below_size (by repeat (first | (with_reducible first | exact HB.out | apply below_alloc | apply pw_below_drewN | apply below_drew1) | exact HB.out))) hk)), Kd.fresh' (Kd.R_lt (by (with_reducible repeat (first | apply Kd.R_alloc | apply Kd.R_drewN | apply Kd.R_drew)); exact HO291.out)) k_ hk⟩)); (case aO => exact (by (with_reducible repeat (first | apply Kd.N_alloc | apply Kd.N_drewN | apply Kd.N_drew)); exact HO294.out)); (case aS => exact (below_size (by repeat (first | (with_reducible first | exact HB.out | apply below_alloc | apply pw_below_drewN | apply below_drew1) | exact HB.out)))); (case aL => have := LMc26.out; omega); intro v296 w65 ho hb hg hat; rw [← Ny295.out] at ho; have n0_ := Aside0.mk (Kd.V_afterv (ok := (fun k_ => (P1_ k_ ∨ w.heap.size ≤ k_) ∧ some k_ ≠ (v290 : Value).ownBlock)) (by (with_reducible repeat (first | apply Kd.V_alloc | apply Kd.V_drewN | apply Kd.V_drew)); exact HO_1.out) hg hat); have n1_ := Aside0.mk (Kd.R_over' (by (with_reducible repeat (first | apply Kd.R_alloc | apply Kd.R_drewN | apply Kd.R_drew)); exact HO291.out) (Kd.N_typed (by (with_reducible repeat (first | apply Kd.N_alloc | apply Kd.N_drewN | apply Kd.N_drew)); exact HO294.out)) (by decide) hg); have n2_ := Aside0.mk (hb); have n3_ := Aside0.mk (ho); clear HO_1; clear HO291; clear HB; clear HO294; have HO_1 := n0_; have HO291 := n1_; have HB := n2_; have HO297 := n3_; clear n0_ n1_ n2_ n3_; clear ho hb hg hat) | ((with_reducible refine gate_builtin (b := .append) (xs := #[.tmp 66, .tmp 69]) rfl ?_); (try (refine gate_guard (by rfl) ?_; dsimp only)); at_builtin; refine Kd.N_append k34 (w0 := w) w.heap.size rfl (.tmp 66) (.tmp 69) 23 34 (.agg #[(.string ⟨#[]⟩), (.int .i64 0), (.slice none 0 0), (.slice none 0 0)]) 72 rfl Tryd.underlying23 info34 rfl (by decide) (by omega) v296 y295 (⟨a2, 1, ([] : List ByteArray), ([] : List (S68))⟩ : S34) [.string a2, .int .i64 1, .slice none 0 0, .slice none 0 0] (fun k_ => (P1_ k_ ∨ w.heap.size ≤ k_) ∧ some k_ ≠ (v290 : Value).ownBlock) (fun k_ => ((fun k_ => (P1_ k_ ∨ w.heap.size ≤ k_) ∧ some k_ ≠ (v290 : Value).ownBlock)) k_ ∧ some k_ ≠ (v296 : Value).ownBlock) rfl rfl ?aP (fun _ hk => hk) ?aF ?aO ?aB ?aS ?aL ?_; (case aP => exact (k34_mkF _ _ (⟨a2, 1, ([] : List ByteArray), ([] : List (S68))⟩ : S34) (Nat.le_refl _) (Kd.F_nil _ _ _) (Nat.le_refl _) (Kd.F_nil _ _ _))); (case aB => exact (by repeat (first | (with_reducible first | exact HB.out | apply below_alloc | apply pw_below_drewN | apply below_drew1) | exact HB.out))); (case aF => exact (fun k_ hk => ⟨(.inr (Nat.le_trans (below_size (by repeat (first | (with_reducible first | exact HB.out | apply below_alloc | apply pw_below_drewN | apply below_drew1) | exact HB.out))) hk)), Kd.fresh' (Kd.R_lt (by (with_reducible repeat (first | apply Kd.R_alloc | apply Kd.R_drewN | apply Kd.R_drew)); exact HO291.out)) k_ hk⟩)); (case aO => exact (by (with_reducible repeat (first | apply Kd.N_alloc | apply Kd.N_drewN | apply Kd.N_drew)); exact HO297.out)); (case aS => exact (below_size (by repeat (first | (with_reducible first | exact HB.out | apply below_alloc | apply pw_below_drewN | apply below_drew1) | exact HB.out)))); (case aL => have := LMc27.out; omega); intro v299 w66 ho hb hg hat; rw [← Ny298.out] at ho; have n0_ := Aside0.mk (Kd.V_afterv (ok := (fun k_ => (P1_ k_ ∨ w.heap.size ≤ k_) ∧ some k_ ≠ (v290 : Value).ownBlock)) (by (with_reducible repeat (first | apply Kd.V_alloc | apply Kd.V_drewN | apply Kd.V_drew)); exact HO_1.out) hg hat); have n1_ := Aside0.mk (Kd.R_over' (by (with_reducible repeat (first | apply Kd.R_alloc | apply Kd.R_drewN | apply Kd.R_drew)); exact HO291.out) (Kd.N_typed (by (with_reducible repeat (first | apply Kd.N_alloc | apply Kd.N_drewN | apply Kd.N_drew)); exact HO297.out)) (by decide) hg); have n2_ := Aside0.mk (hb); have n3_ := Aside0.mk (ho); clear HO_1; clear HO291; clear HB; clear HO297; have HO_1 := n0_; have HO291 := n1_; have HB := n2_; have HO300 := n3_; clear n0_ n1_ n2_ n3_; clear ho hb hg hat; obtain ⟨Ao67, co67, eo67⟩ := Kd.N_slice HO300.out; subst eo67) | (go_at_call 10; (with_reducible refine (plan_Order.calls k2 _ _ l0 _ _ y298 t301 t302 t303 _ ?side1 ?side2 ?side3 ?side4 A28.out).mono ?_); (case side1 => repeat (first | exact (Kd.C_below HR0.out HB.out) | (with_reducible refine Kd.C_alloc ?_ _) | (with_reducible refine Kd.C_drewN ?_ _) | (with_reducible refine Kd.C_drew ?_))); (case side2 => exact HC0.out); (case side3 => repeat (first | exact (Kd.N_reads' HO300.out).2.2 | (with_reducible refine Kd.C_alloc ?_ _) | (with_reducible refine Kd.C_drewN ?_ _) | (with_reducible refine Kd.C_drew ?_))); (case side4 => exact (Kd.N_reads' HO300.out).2.1); rintro e w68 ⟨v304, rfl, ho0, hb⟩; have n0_ := Aside0.mk (Kd.V_elder' (by (with_reducible repeat (first | apply Kd.V_alloc | apply Kd.V_drewN | apply Kd.V_drew)); exact HO_1.out) (Kd.R_base ho0) hb); have n1_ := Aside0.mk (Kd.R_elder' (by (with_reducible repeat (first | apply Kd.R_alloc | apply Kd.R_drewN | apply Kd.R_drew)); exact HO291.out) (Kd.R_base ho0) hb); have n2_ := Aside0.mk (Kd.N_elder' (by (with_reducible repeat (first | apply Kd.N_alloc | apply Kd.N_drewN | apply Kd.N_drew)); exact HO300.out) (Kd.R_base ho0) hb); have n3_ := Aside0.mk (Kd.R_lower (Kd.R_new' (Kd.R_newM (M := fun k_ => (w.heap.size ≤ k_)) ho0 (below_size (by repeat (first | (with_reducible first | exact HB.out | apply below_alloc | apply pw_below_drewN | apply below_drew1) | exact HB.out))) (fun k_ h_ => h_)) (Kd.R_lt (by (with_reducible repeat (first | apply Kd.R_alloc | apply Kd.R_drewN | apply Kd.R_drew)); exact HO291.out))) (below_size (by repeat (first | (with_reducible first | exact HB.out | apply below_alloc | apply pw_below_drewN | apply below_drew1) | exact HB.out)))); have n4_ := Aside0.mk (below_step (by repeat (first | (with_reducible first | exact HB.out | apply below_alloc | apply pw_below_drewN | apply below_drew1) | exact HB.out)) hb); clear HO_1; clear HO291; clear HO300; clear HB; have HO_1 := n0_; have HO291 := n1_; have HO300 := n2_; have HO305 := n3_; have HB := n4_; clear n0_ n1_ n2_ n3_ n4_; (try clear hb); (try clear hb2); (try clear hk); (try clear hi); (try clear ho0)) | (go_at_call 13; (with_reducible refine (monticuleref06_Class.calls k2 a2 false _ A29.out).mono ?_); rintro e w' ⟨rfl, ⟨nd, rfl⟩⟩; (try first | exact ⟨rfl, _, World.drewN_drewN _ _ _⟩ | exact ⟨rfl, _, Eq.trans (World.drewN_drewN _ _ _) (congrArg (World.drewN _) (Nat.add_assoc _ _ _))⟩)))
                        go_ret
                        exact ⟨by first | rfl | (simp [errW_none, errW_some] <;> rfl) | (simp [*, errW_none, errW_some] <;> rfl), by repeat (first | (with_reducible first | exact HB.out | apply below_alloc | apply pw_below_drewN | apply below_drew1) | exact HB.out)⟩
                      · rw [if_neg c61] at H
                        have c61b0 : (t302 == 2) = false := beq_eq_false_iff_ne.mpr c61
                        have c61b1 : (t302 != 2) = true := bne_iff_ne.mpr c61
                        obtain rfl := Option.some.inj H
                        go_wp2_with (first | (go_at_call 10; (with_reducible refine (plan_Order.calls k2 _ _ l0 _ _ l1 t287 t288 t289 _ ?side1 ?side2 ?side3 ?side4 A25.out).mono ?_); (case side1 => repeat (first | exact (Kd.C_below HR0.out HB.out) | (with_reducible refine Kd.C_alloc ?_ _) | (with_reducible refine Kd.C_drewN ?_ _) | (with_reducible refine Kd.C_drew ?_))); (case side2 => exact HC0.out); (case side3 => repeat (first | exact (Kd.V_reads' HO_1.out).2.2 | (with_reducible refine Kd.C_alloc ?_ _) | (with_reducible refine Kd.C_drewN ?_ _) | (with_reducible refine Kd.C_drew ?_))); (case side4 => exact (Kd.V_reads' HO_1.out).2.1); rintro e w69 ⟨v290, rfl, ho0, hb⟩; have n0_ := Aside0.mk (Kd.V_elder' (by (with_reducible repeat (first | apply Kd.V_alloc | apply Kd.V_drewN | apply Kd.V_drew)); exact HO_1.out) (Kd.R_base ho0) hb); have n1_ := Aside0.mk (Kd.R_lower (Kd.R_newM (M := fun k_ => (w.heap.size ≤ k_)) ho0 (below_size (by repeat (first | (with_reducible first | exact HB.out | apply below_alloc | apply pw_below_drewN | apply below_drew1) | exact HB.out))) (fun k_ h_ => h_)) (below_size (by repeat (first | (with_reducible first | exact HB.out | apply below_alloc | apply pw_below_drewN | apply below_drew1) | exact HB.out)))); have n2_ := Aside0.mk (below_step (by repeat (first | (with_reducible first | exact HB.out | apply below_alloc | apply pw_below_drewN | apply below_drew1) | exact HB.out)) hb); clear HO_1; clear HB; have HO_1 := n0_; have HO291 := n1_; have HB := n2_; clear n0_ n1_ n2_; (try clear hb); (try clear hb2); (try clear hk); (try clear hi); (try clear ho0)) | ((with_reducible refine gate_dst (N := 64) rfl ?_); (try (refine gate_guard (by rfl) ?_; dsimp only)); refine Kd.N_lit k34 _ 34 ?hg (N' := 64) ?hd (xs := ([] : List (S34))) (inner := []) (ok := (fun k_ => (P1_ k_ ∨ w.heap.size ≤ k_) ∧ some k_ ≠ (v290 : Value).ownBlock)) (okp := (fun k_ => (P1_ k_ ∨ w.heap.size ≤ k_) ∧ some k_ ≠ (v290 : Value).ownBlock)) ?hr ?hp (fun _ hk => hk) ((show ∀ k_, w69.heap.size ≤ k_ → (fun k_ => (P1_ k_ ∨ w.heap.size ≤ k_) ∧ some k_ ≠ (v290 : Value).ownBlock) k_ from fun k_ hk => ⟨(.inr (Nat.le_trans (below_size (by repeat (first | (with_reducible first | exact HB.out | apply below_alloc | apply pw_below_drewN | apply below_drew1) | exact HB.out))) hk)), Kd.fresh' (Kd.R_lt (by (with_reducible repeat (first | apply Kd.R_alloc | apply Kd.R_drewN | apply Kd.R_drew)); exact HO291.out)) k_ hk⟩) _ (Nat.le_refl _)) (Below.refl _ _) (Nat.le_refl _) (by simp) ?_; (case hd => rfl); (case hg => rfl); (case hr => first | (go_simp; done) | (go_simp; rfl)); (case hp => exact (Reps.none _ _)); intro v293 w70 ho71 hb hg_ hnew_; clear hg_ hnew_; (first | rw [← Ny292.out] at ho71 | (simp only [Int.reduceToNat] at ho71; rw [← Ny292.out] at ho71)); have n0_ := Aside0.mk (Kd.V_elder' (by (with_reducible repeat (first | apply Kd.V_alloc | apply Kd.V_drewN | apply Kd.V_drew)); exact HO_1.out) (Kd.N_base ho71) hb); have n1_ := Aside0.mk (Kd.R_below (by (with_reducible repeat (first | apply Kd.R_alloc | apply Kd.R_drewN | apply Kd.R_drew)); exact HO291.out) hb); have n2_ := Aside0.mk (Kd.N_lower ho71 (below_size (by repeat (first | (with_reducible first | exact HB.out | apply below_alloc | apply pw_below_drewN | apply below_drew1) | exact HB.out)))); have n3_ := Aside0.mk (below_step (by repeat (first | (with_reducible first | exact HB.out | apply below_alloc | apply pw_below_drewN | apply below_drew1) | exact HB.out)) hb); clear HO_1; clear HO291; clear HB; have HO_1 := n0_; have HO291 := n1_; have HO294 := n2_; have HB := n3_; clear n0_ n1_ n2_ n3_; clear hb ho71) | ((with_reducible refine gate_builtin (b := .append) (xs := #[.tmp 64, .tmp 65]) rfl ?_); (try (refine gate_guard (by rfl) ?_; dsimp only)); at_builtin; refine Kd.N_append_rows k34 (w0 := w) w.heap.size rfl (.tmp 64) (.tmp 65) 23 34 (.agg #[(.string ⟨#[]⟩), (.int .i64 0), (.slice none 0 0), (.slice none 0 0)]) 72 rfl Tryd.underlying23 info34 rfl (by decide) (by omega) v293 y292 l1 _ _ _ (fun k_ => (P1_ k_ ∨ w.heap.size ≤ k_) ∧ some k_ ≠ (v290 : Value).ownBlock) (fun k_ => ((fun k_ => (P1_ k_ ∨ w.heap.size ≤ k_) ∧ some k_ ≠ (v290 : Value).ownBlock)) k_ ∧ some k_ ≠ (v293 : Value).ownBlock) rfl rfl ?aO ?aR (fun _ hk => hk) ?aF ?aB ?aS ?aL ?_; (case aR => exact (by skip; exact Kd.V_F (Kd.V_mono (ok' := (fun k_ => ((fun k_ => (P1_ k_ ∨ w.heap.size ≤ k_) ∧ some k_ ≠ (v290 : Value).ownBlock)) k_ ∧ some k_ ≠ (v293 : Value).ownBlock)) (HO_1.out) (fun k_ hk => ⟨⟨hk.1.1, hk.1.2⟩, hk.2⟩)))); (case aB => exact (by repeat (first | (with_reducible first | exact HB.out | apply below_alloc | apply pw_below_drewN | apply below_drew1) | exact HB.out))); (case aF => exact (fun k_ hk => ⟨(.inr (Nat.le_trans (below_size (by repeat (first | (with_reducible first | exact HB.out | apply below_alloc | apply pw_below_drewN | apply below_drew1) | exact HB.out))) hk)), Kd.fresh' (Kd.R_lt (by (with_reducible repeat (first | apply Kd.R_alloc | apply Kd.R_drewN | apply Kd.R_drew)); exact HO291.out)) k_ hk⟩)); (case aO => exact (by (with_reducible repeat (first | apply Kd.N_alloc | apply Kd.N_drewN | apply Kd.N_drew)); exact HO294.out)); (case aS => exact (below_size (by repeat (first | (with_reducible first | exact HB.out | apply below_alloc | apply pw_below_drewN | apply below_drew1) | exact HB.out)))); (case aL => have := LMc26.out; omega); intro v296 w72 ho hb hg hat; rw [← Ny295.out] at ho; have n0_ := Aside0.mk (Kd.V_afterv (ok := (fun k_ => (P1_ k_ ∨ w.heap.size ≤ k_) ∧ some k_ ≠ (v290 : Value).ownBlock)) (by (with_reducible repeat (first | apply Kd.V_alloc | apply Kd.V_drewN | apply Kd.V_drew)); exact HO_1.out) hg hat); have n1_ := Aside0.mk (Kd.R_over' (by (with_reducible repeat (first | apply Kd.R_alloc | apply Kd.R_drewN | apply Kd.R_drew)); exact HO291.out) (Kd.N_typed (by (with_reducible repeat (first | apply Kd.N_alloc | apply Kd.N_drewN | apply Kd.N_drew)); exact HO294.out)) (by decide) hg); have n2_ := Aside0.mk (hb); have n3_ := Aside0.mk (ho); clear HO_1; clear HO291; clear HB; clear HO294; have HO_1 := n0_; have HO291 := n1_; have HB := n2_; have HO297 := n3_; clear n0_ n1_ n2_ n3_; clear ho hb hg hat) | ((with_reducible refine gate_builtin (b := .append) (xs := #[.tmp 66, .tmp 69]) rfl ?_); (try (refine gate_guard (by rfl) ?_; dsimp only)); at_builtin; refine Kd.N_append k34 (w0 := w) w.heap.size rfl (.tmp 66) (.tmp 69) 23 34 (.agg #[(.string ⟨#[]⟩), (.int .i64 0), (.slice none 0 0), (.slice none 0 0)]) 72 rfl Tryd.underlying23 info34 rfl (by decide) (by omega) v296 y295 (⟨a2, 1, ([] : List ByteArray), ([] : List (S68))⟩ : S34) [.string a2, .int .i64 1, .slice none 0 0, .slice none 0 0] (fun k_ => (P1_ k_ ∨ w.heap.size ≤ k_) ∧ some k_ ≠ (v290 : Value).ownBlock) (fun k_ => ((fun k_ => (P1_ k_ ∨ w.heap.size ≤ k_) ∧ some k_ ≠ (v290 : Value).ownBlock)) k_ ∧ some k_ ≠ (v296 : Value).ownBlock) rfl rfl ?aP (fun _ hk => hk) ?aF ?aO ?aB ?aS ?aL ?_; (case aP => exact (k34_mkF _ _ (⟨a2, 1, ([] : List ByteArray), ([] : List (S68))⟩ : S34) (Nat.le_refl _) (Kd.F_nil _ _ _) (Nat.le_refl _) (Kd.F_nil _ _ _))); (case aB => exact (by repeat (first | (with_reducible first | exact HB.out | apply below_alloc | apply pw_below_drewN | apply below_drew1) | exact HB.out))); (case aF => exact (fun k_ hk => ⟨(.inr (Nat.le_trans (below_size (by repeat (first | (with_reducible first | exact HB.out | apply below_alloc | apply pw_below_drewN | apply below_drew1) | exact HB.out))) hk)), Kd.fresh' (Kd.R_lt (by (with_reducible repeat (first | apply Kd.R_alloc | apply Kd.R_drewN | apply Kd.R_drew)); exact HO291.out)) k_ hk⟩)); (case aO => exact (by (with_reducible repeat (first | apply Kd.N_alloc | apply Kd.N_drewN | apply Kd.N_drew)); exact HO297.out)); (case aS => exact (below_size (by repeat (first | (with_reducible first | exact HB.out | apply below_alloc | apply pw_below_drewN | apply below_drew1) | exact HB.out)))); (case aL => have := LMc27.out; omega); intro v299 w73 ho hb hg hat; rw [← Ny298.out] at ho; have n0_ := Aside0.mk (Kd.V_afterv (ok := (fun k_ => (P1_ k_ ∨ w.heap.size ≤ k_) ∧ some k_ ≠ (v290 : Value).ownBlock)) (by (with_reducible repeat (first | apply Kd.V_alloc | apply Kd.V_drewN | apply Kd.V_drew)); exact HO_1.out) hg hat); have n1_ := Aside0.mk (Kd.R_over' (by (with_reducible repeat (first | apply Kd.R_alloc | apply Kd.R_drewN | apply Kd.R_drew)); exact HO291.out) (Kd.N_typed (by (with_reducible repeat (first | apply Kd.N_alloc | apply Kd.N_drewN | apply Kd.N_drew)); exact HO297.out)) (by decide) hg); have n2_ := Aside0.mk (hb); have n3_ := Aside0.mk (ho); clear HO_1; clear HO291; clear HB; clear HO297; have HO_1 := n0_; have HO291 := n1_; have HB := n2_; have HO300 := n3_; clear n0_ n1_ n2_ n3_; clear ho hb hg hat; obtain ⟨Ao74, co74, eo74⟩ := Kd.N_slice HO300.out; subst eo74) | (go_at_call 10; (with_reducible refine (plan_Order.calls k2 _ _ l0 _ _ y298 t301 t302 t303 _ ?side1 ?side2 ?side3 ?side4 A28.out).mono ?_); (case side1 => repeat (first | exact (Kd.C_below HR0.out HB.out) | (with_reducible refine Kd.C_alloc ?_ _) | (with_reducible refine Kd.C_drewN ?_ _) | (with_reducible refine Kd.C_drew ?_))); (case side2 => exact HC0.out); (case side3 => repeat (first | exact (Kd.N_reads' HO300.out).2.2 | (with_reducible refine Kd.C_alloc ?_ _) | (with_reducible refine Kd.C_drewN ?_ _) | (with_reducible refine Kd.C_drew ?_))); (case side4 => exact (Kd.N_reads' HO300.out).2.1); rintro e w75 ⟨v304, rfl, ho0, hb⟩; have n0_ := Aside0.mk (Kd.V_elder' (by (with_reducible repeat (first | apply Kd.V_alloc | apply Kd.V_drewN | apply Kd.V_drew)); exact HO_1.out) (Kd.R_base ho0) hb); have n1_ := Aside0.mk (Kd.R_elder' (by (with_reducible repeat (first | apply Kd.R_alloc | apply Kd.R_drewN | apply Kd.R_drew)); exact HO291.out) (Kd.R_base ho0) hb); have n2_ := Aside0.mk (Kd.N_elder' (by (with_reducible repeat (first | apply Kd.N_alloc | apply Kd.N_drewN | apply Kd.N_drew)); exact HO300.out) (Kd.R_base ho0) hb); have n3_ := Aside0.mk (Kd.R_lower (Kd.R_new' (Kd.R_newM (M := fun k_ => (w.heap.size ≤ k_)) ho0 (below_size (by repeat (first | (with_reducible first | exact HB.out | apply below_alloc | apply pw_below_drewN | apply below_drew1) | exact HB.out))) (fun k_ h_ => h_)) (Kd.R_lt (by (with_reducible repeat (first | apply Kd.R_alloc | apply Kd.R_drewN | apply Kd.R_drew)); exact HO291.out))) (below_size (by repeat (first | (with_reducible first | exact HB.out | apply below_alloc | apply pw_below_drewN | apply below_drew1) | exact HB.out)))); have n4_ := Aside0.mk (below_step (by repeat (first | (with_reducible first | exact HB.out | apply below_alloc | apply pw_below_drewN | apply below_drew1) | exact HB.out)) hb); clear HO_1; clear HO291; clear HO300; clear HB; have HO_1 := n0_; have HO291 := n1_; have HO300 := n2_; have HO305 := n3_; have HB := n4_; clear n0_ n1_ n2_ n3_ n4_; (try clear hb); (try clear hb2); (try clear hk); (try clear hi); (try clear ho0)) | (go_at_call 13; (with_reducible refine (monticuleref06_Class.calls k2 a2 false _ A29.out).mono ?_); rintro e w' ⟨rfl, ⟨nd, rfl⟩⟩; (try first | exact ⟨rfl, _, World.drewN_drewN _ _ _⟩ | exact ⟨rfl, _, Eq.trans (World.drewN_drewN _ _ _) (congrArg (World.drewN _) (Nat.add_assoc _ _ _))⟩)))
                        go_ret
                        exact ⟨by first | rfl | (simp [errW_none, errW_some] <;> rfl) | (simp [*, errW_none, errW_some] <;> rfl), by repeat (first | (with_reducible first | exact HB.out | apply below_alloc | apply pw_below_drewN | apply below_drew1) | exact HB.out)⟩
                    · rw [if_neg c60] at H
                      have c60b0 : (t288 == 0) = false := beq_eq_false_iff_ne.mpr c60
                      have c60b1 : (t288 != 0) = true := bne_iff_ne.mpr c60
                      by_cases c76 : t302 = 0
                      · rw [if_pos c76] at H
                        have c76b0 : (t302 == 0) = true := beq_iff_eq.mpr c76
                        have c76b1 : (t302 != 0) = false := bne_eq_false_iff_eq.mpr c76
                        clear c76
                        by_cases c77 : t302 = 2
                        · rw [if_pos c77] at H
                          have c77b0 : (t302 == 2) = true := beq_iff_eq.mpr c77
                          have c77b1 : (t302 != 2) = false := bne_eq_false_iff_eq.mpr c77
                          clear c77
                          obtain rfl := Option.some.inj H
                          go_wp2_with (first | (go_at_call 10; (with_reducible refine (plan_Order.calls k2 _ _ l0 _ _ l1 t287 t288 t289 _ ?side1 ?side2 ?side3 ?side4 A25.out).mono ?_); (case side1 => repeat (first | exact (Kd.C_below HR0.out HB.out) | (with_reducible refine Kd.C_alloc ?_ _) | (with_reducible refine Kd.C_drewN ?_ _) | (with_reducible refine Kd.C_drew ?_))); (case side2 => exact HC0.out); (case side3 => repeat (first | exact (Kd.V_reads' HO_1.out).2.2 | (with_reducible refine Kd.C_alloc ?_ _) | (with_reducible refine Kd.C_drewN ?_ _) | (with_reducible refine Kd.C_drew ?_))); (case side4 => exact (Kd.V_reads' HO_1.out).2.1); rintro e w78 ⟨v290, rfl, ho0, hb⟩; have n0_ := Aside0.mk (Kd.V_elder' (by (with_reducible repeat (first | apply Kd.V_alloc | apply Kd.V_drewN | apply Kd.V_drew)); exact HO_1.out) (Kd.R_base ho0) hb); have n1_ := Aside0.mk (Kd.R_lower (Kd.R_newM (M := fun k_ => (w.heap.size ≤ k_)) ho0 (below_size (by repeat (first | (with_reducible first | exact HB.out | apply below_alloc | apply pw_below_drewN | apply below_drew1) | exact HB.out))) (fun k_ h_ => h_)) (below_size (by repeat (first | (with_reducible first | exact HB.out | apply below_alloc | apply pw_below_drewN | apply below_drew1) | exact HB.out)))); have n2_ := Aside0.mk (below_step (by repeat (first | (with_reducible first | exact HB.out | apply below_alloc | apply pw_below_drewN | apply below_drew1) | exact HB.out)) hb); clear HO_1; clear HB; have HO_1 := n0_; have HO291 := n1_; have HB := n2_; clear n0_ n1_ n2_; (try clear hb); (try clear hb2); (try clear hk); (try clear hi); (try clear ho0)) | ((with_reducible refine gate_dst (N := 64) rfl ?_); (try (refine gate_guard (by rfl) ?_; dsimp only)); refine Kd.N_lit k34 _ 34 ?hg (N' := 64) ?hd (xs := ([] : List (S34))) (inner := []) (ok := (fun k_ => (P1_ k_ ∨ w.heap.size ≤ k_) ∧ some k_ ≠ (v290 : Value).ownBlock)) (okp := (fun k_ => (P1_ k_ ∨ w.heap.size ≤ k_) ∧ some k_ ≠ (v290 : Value).ownBlock)) ?hr ?hp (fun _ hk => hk) ((show ∀ k_, w78.heap.size ≤ k_ → (fun k_ => (P1_ k_ ∨ w.heap.size ≤ k_) ∧ some k_ ≠ (v290 : Value).ownBlock) k_ from fun k_ hk => ⟨(.inr (Nat.le_trans (below_size (by repeat (first | (with_reducible first | exact HB.out | apply below_alloc | apply pw_below_drewN | apply below_drew1) | exact HB.out))) hk)), Kd.fresh' (Kd.R_lt (by (with_reducible repeat (first | apply Kd.R_alloc | apply Kd.R_drewN | apply Kd.R_drew)); exact HO291.out)) k_ hk⟩) _ (Nat.le_refl _)) (Below.refl _ _) (Nat.le_refl _) (by simp) ?_; (case hd => rfl); (case hg => rfl); (case hr => first | (go_simp; done) | (go_simp; rfl)); (case hp => exact (Reps.none _ _)); intro v293 w79 ho80 hb hg_ hnew_; clear hg_ hnew_; (first | rw [← Ny292.out] at ho80 | (simp only [Int.reduceToNat] at ho80; rw [← Ny292.out] at ho80)); have n0_ := Aside0.mk (Kd.V_elder' (by (with_reducible repeat (first | apply Kd.V_alloc | apply Kd.V_drewN | apply Kd.V_drew)); exact HO_1.out) (Kd.N_base ho80) hb); have n1_ := Aside0.mk (Kd.R_below (by (with_reducible repeat (first | apply Kd.R_alloc | apply Kd.R_drewN | apply Kd.R_drew)); exact HO291.out) hb); have n2_ := Aside0.mk (Kd.N_lower ho80 (below_size (by repeat (first | (with_reducible first | exact HB.out | apply below_alloc | apply pw_below_drewN | apply below_drew1) | exact HB.out)))); have n3_ := Aside0.mk (below_step (by repeat (first | (with_reducible first | exact HB.out | apply below_alloc | apply pw_below_drewN | apply below_drew1) | exact HB.out)) hb); clear HO_1; clear HO291; clear HB; have HO_1 := n0_; have HO291 := n1_; have HO294 := n2_; have HB := n3_; clear n0_ n1_ n2_ n3_; clear hb ho80) | ((with_reducible refine gate_builtin (b := .append) (xs := #[.tmp 64, .tmp 65]) rfl ?_); (try (refine gate_guard (by rfl) ?_; dsimp only)); at_builtin; refine Kd.N_append_rows k34 (w0 := w) w.heap.size rfl (.tmp 64) (.tmp 65) 23 34 (.agg #[(.string ⟨#[]⟩), (.int .i64 0), (.slice none 0 0), (.slice none 0 0)]) 72 rfl Tryd.underlying23 info34 rfl (by decide) (by omega) v293 y292 l1 _ _ _ (fun k_ => (P1_ k_ ∨ w.heap.size ≤ k_) ∧ some k_ ≠ (v290 : Value).ownBlock) (fun k_ => ((fun k_ => (P1_ k_ ∨ w.heap.size ≤ k_) ∧ some k_ ≠ (v290 : Value).ownBlock)) k_ ∧ some k_ ≠ (v293 : Value).ownBlock) rfl rfl ?aO ?aR (fun _ hk => hk) ?aF ?aB ?aS ?aL ?_; (case aR => exact (by skip; exact Kd.V_F (Kd.V_mono (ok' := (fun k_ => ((fun k_ => (P1_ k_ ∨ w.heap.size ≤ k_) ∧ some k_ ≠ (v290 : Value).ownBlock)) k_ ∧ some k_ ≠ (v293 : Value).ownBlock)) (HO_1.out) (fun k_ hk => ⟨⟨hk.1.1, hk.1.2⟩, hk.2⟩)))); (case aB => exact (by repeat (first | (with_reducible first | exact HB.out | apply below_alloc | apply pw_below_drewN | apply below_drew1) | exact HB.out))); (case aF => exact (fun k_ hk => ⟨(.inr (Nat.le_trans (below_size (by repeat (first | (with_reducible first | exact HB.out | apply below_alloc | apply pw_below_drewN | apply below_drew1) | exact HB.out))) hk)), Kd.fresh' (Kd.R_lt (by (with_reducible repeat (first | apply Kd.R_alloc | apply Kd.R_drewN | apply Kd.R_drew)); exact HO291.out)) k_ hk⟩)); (case aO => exact (by (with_reducible repeat (first | apply Kd.N_alloc | apply Kd.N_drewN | apply Kd.N_drew)); exact HO294.out)); (case aS => exact (below_size (by repeat (first | (with_reducible first | exact HB.out | apply below_alloc | apply pw_below_drewN | apply below_drew1) | exact HB.out)))); (case aL => have := LMc26.out; omega); intro v296 w81 ho hb hg hat; rw [← Ny295.out] at ho; have n0_ := Aside0.mk (Kd.V_afterv (ok := (fun k_ => (P1_ k_ ∨ w.heap.size ≤ k_) ∧ some k_ ≠ (v290 : Value).ownBlock)) (by (with_reducible repeat (first | apply Kd.V_alloc | apply Kd.V_drewN | apply Kd.V_drew)); exact HO_1.out) hg hat); have n1_ := Aside0.mk (Kd.R_over' (by (with_reducible repeat (first | apply Kd.R_alloc | apply Kd.R_drewN | apply Kd.R_drew)); exact HO291.out) (Kd.N_typed (by (with_reducible repeat (first | apply Kd.N_alloc | apply Kd.N_drewN | apply Kd.N_drew)); exact HO294.out)) (by decide) hg); have n2_ := Aside0.mk (hb); have n3_ := Aside0.mk (ho); clear HO_1; clear HO291; clear HB; clear HO294; have HO_1 := n0_; have HO291 := n1_; have HB := n2_; have HO297 := n3_; clear n0_ n1_ n2_ n3_; clear ho hb hg hat) | ((with_reducible refine gate_builtin (b := .append) (xs := #[.tmp 66, .tmp 69]) rfl ?_); (try (refine gate_guard (by rfl) ?_; dsimp only)); at_builtin; refine Kd.N_append k34 (w0 := w) w.heap.size rfl (.tmp 66) (.tmp 69) 23 34 (.agg #[(.string ⟨#[]⟩), (.int .i64 0), (.slice none 0 0), (.slice none 0 0)]) 72 rfl Tryd.underlying23 info34 rfl (by decide) (by omega) v296 y295 (⟨a2, 1, ([] : List ByteArray), ([] : List (S68))⟩ : S34) [.string a2, .int .i64 1, .slice none 0 0, .slice none 0 0] (fun k_ => (P1_ k_ ∨ w.heap.size ≤ k_) ∧ some k_ ≠ (v290 : Value).ownBlock) (fun k_ => ((fun k_ => (P1_ k_ ∨ w.heap.size ≤ k_) ∧ some k_ ≠ (v290 : Value).ownBlock)) k_ ∧ some k_ ≠ (v296 : Value).ownBlock) rfl rfl ?aP (fun _ hk => hk) ?aF ?aO ?aB ?aS ?aL ?_; (case aP => exact (k34_mkF _ _ (⟨a2, 1, ([] : List ByteArray), ([] : List (S68))⟩ : S34) (Nat.le_refl _) (Kd.F_nil _ _ _) (Nat.le_refl _) (Kd.F_nil _ _ _))); (case aB => exact (by repeat (first | (with_reducible first | exact HB.out | apply below_alloc | apply pw_below_drewN | apply below_drew1) | exact HB.out))); (case aF => exact (fun k_ hk => ⟨(.inr (Nat.le_trans (below_size (by repeat (first | (with_reducible first | exact HB.out | apply below_alloc | apply pw_below_drewN | apply below_drew1) | exact HB.out))) hk)), Kd.fresh' (Kd.R_lt (by (with_reducible repeat (first | apply Kd.R_alloc | apply Kd.R_drewN | apply Kd.R_drew)); exact HO291.out)) k_ hk⟩)); (case aO => exact (by (with_reducible repeat (first | apply Kd.N_alloc | apply Kd.N_drewN | apply Kd.N_drew)); exact HO297.out)); (case aS => exact (below_size (by repeat (first | (with_reducible first | exact HB.out | apply below_alloc | apply pw_below_drewN | apply below_drew1) | exact HB.out)))); (case aL => have := LMc27.out; omega); intro v299 w82 ho hb hg hat; rw [← Ny298.out] at ho; have n0_ := Aside0.mk (Kd.V_afterv (ok := (fun k_ => (P1_ k_ ∨ w.heap.size ≤ k_) ∧ some k_ ≠ (v290 : Value).ownBlock)) (by (with_reducible repeat (first | apply Kd.V_alloc | apply Kd.V_drewN | apply Kd.V_drew)); exact HO_1.out) hg hat); have n1_ := Aside0.mk (Kd.R_over' (by (with_reducible repeat (first | apply Kd.R_alloc | apply Kd.R_drewN | apply Kd.R_drew)); exact HO291.out) (Kd.N_typed (by (with_reducible repeat (first | apply Kd.N_alloc | apply Kd.N_drewN | apply Kd.N_drew)); exact HO297.out)) (by decide) hg); have n2_ := Aside0.mk (hb); have n3_ := Aside0.mk (ho); clear HO_1; clear HO291; clear HB; clear HO297; have HO_1 := n0_; have HO291 := n1_; have HB := n2_; have HO300 := n3_; clear n0_ n1_ n2_ n3_; clear ho hb hg hat; obtain ⟨Ao83, co83, eo83⟩ := Kd.N_slice HO300.out; subst eo83) | (go_at_call 10; (with_reducible refine (plan_Order.calls k2 _ _ l0 _ _ y298 t301 t302 t303 _ ?side1 ?side2 ?side3 ?side4 A28.out).mono ?_); (case side1 => repeat (first | exact (Kd.C_below HR0.out HB.out) | (with_reducible refine Kd.C_alloc ?_ _) | (with_reducible refine Kd.C_drewN ?_ _) | (with_reducible refine Kd.C_drew ?_))); (case side2 => exact HC0.out); (case side3 => repeat (first | exact (Kd.N_reads' HO300.out).2.2 | (with_reducible refine Kd.C_alloc ?_ _) | (with_reducible refine Kd.C_drewN ?_ _) | (with_reducible refine Kd.C_drew ?_))); (case side4 => exact (Kd.N_reads' HO300.out).2.1); rintro e w84 ⟨v304, rfl, ho0, hb⟩; have n0_ := Aside0.mk (Kd.V_elder' (by (with_reducible repeat (first | apply Kd.V_alloc | apply Kd.V_drewN | apply Kd.V_drew)); exact HO_1.out) (Kd.R_base ho0) hb); have n1_ := Aside0.mk (Kd.R_elder' (by (with_reducible repeat (first | apply Kd.R_alloc | apply Kd.R_drewN | apply Kd.R_drew)); exact HO291.out) (Kd.R_base ho0) hb); have n2_ := Aside0.mk (Kd.N_elder' (by (with_reducible repeat (first | apply Kd.N_alloc | apply Kd.N_drewN | apply Kd.N_drew)); exact HO300.out) (Kd.R_base ho0) hb); have n3_ := Aside0.mk (Kd.R_lower (Kd.R_new' (Kd.R_newM (M := fun k_ => (w.heap.size ≤ k_)) ho0 (below_size (by repeat (first | (with_reducible first | exact HB.out | apply below_alloc | apply pw_below_drewN | apply below_drew1) | exact HB.out))) (fun k_ h_ => h_)) (Kd.R_lt (by (with_reducible repeat (first | apply Kd.R_alloc | apply Kd.R_drewN | apply Kd.R_drew)); exact HO291.out))) (below_size (by repeat (first | (with_reducible first | exact HB.out | apply below_alloc | apply pw_below_drewN | apply below_drew1) | exact HB.out)))); have n4_ := Aside0.mk (below_step (by repeat (first | (with_reducible first | exact HB.out | apply below_alloc | apply pw_below_drewN | apply below_drew1) | exact HB.out)) hb); clear HO_1; clear HO291; clear HO300; clear HB; have HO_1 := n0_; have HO291 := n1_; have HO300 := n2_; have HO305 := n3_; have HB := n4_; clear n0_ n1_ n2_ n3_ n4_; (try clear hb); (try clear hb2); (try clear hk); (try clear hi); (try clear ho0)) | (go_at_call 13; (with_reducible refine (monticuleref06_Class.calls k2 a2 false _ A29.out).mono ?_); rintro e w' ⟨rfl, ⟨nd, rfl⟩⟩; (try first | exact ⟨rfl, _, World.drewN_drewN _ _ _⟩ | exact ⟨rfl, _, Eq.trans (World.drewN_drewN _ _ _) (congrArg (World.drewN _) (Nat.add_assoc _ _ _))⟩)))
                          go_ret
                          exact ⟨by first | rfl | (simp [errW_none, errW_some] <;> rfl) | (simp [*, errW_none, errW_some] <;> rfl), by repeat (first | (with_reducible first | exact HB.out | apply below_alloc | apply pw_below_drewN | apply below_drew1) | exact HB.out)⟩
                        · rw [if_neg c77] at H
                          have c77b0 : (t302 == 2) = false := beq_eq_false_iff_ne.mpr c77
                          have c77b1 : (t302 != 2) = true := bne_iff_ne.mpr c77
                          obtain rfl := Option.some.inj H
                          go_wp2_with (first | (go_at_call 10; (with_reducible refine (plan_Order.calls k2 _ _ l0 _ _ l1 t287 t288 t289 _ ?side1 ?side2 ?side3 ?side4 A25.out).mono ?_); (case side1 => repeat (first | exact (Kd.C_below HR0.out HB.out) | (with_reducible refine Kd.C_alloc ?_ _) | (with_reducible refine Kd.C_drewN ?_ _) | (with_reducible refine Kd.C_drew ?_))); (case side2 => exact HC0.out); (case side3 => repeat (first | exact (Kd.V_reads' HO_1.out).2.2 | (with_reducible refine Kd.C_alloc ?_ _) | (with_reducible refine Kd.C_drewN ?_ _) | (with_reducible refine Kd.C_drew ?_))); (case side4 => exact (Kd.V_reads' HO_1.out).2.1); rintro e w85 ⟨v290, rfl, ho0, hb⟩; have n0_ := Aside0.mk (Kd.V_elder' (by (with_reducible repeat (first | apply Kd.V_alloc | apply Kd.V_drewN | apply Kd.V_drew)); exact HO_1.out) (Kd.R_base ho0) hb); have n1_ := Aside0.mk (Kd.R_lower (Kd.R_newM (M := fun k_ => (w.heap.size ≤ k_)) ho0 (below_size (by repeat (first | (with_reducible first | exact HB.out | apply below_alloc | apply pw_below_drewN | apply below_drew1) | exact HB.out))) (fun k_ h_ => h_)) (below_size (by repeat (first | (with_reducible first | exact HB.out | apply below_alloc | apply pw_below_drewN | apply below_drew1) | exact HB.out)))); have n2_ := Aside0.mk (below_step (by repeat (first | (with_reducible first | exact HB.out | apply below_alloc | apply pw_below_drewN | apply below_drew1) | exact HB.out)) hb); clear HO_1; clear HB; have HO_1 := n0_; have HO291 := n1_; have HB := n2_; clear n0_ n1_ n2_; (try clear hb); (try clear hb2); (try clear hk); (try clear hi); (try clear ho0)) | ((with_reducible refine gate_dst (N := 64) rfl ?_); (try (refine gate_guard (by rfl) ?_; dsimp only)); refine Kd.N_lit k34 _ 34 ?hg (N' := 64) ?hd (xs := ([] : List (S34))) (inner := []) (ok := (fun k_ => (P1_ k_ ∨ w.heap.size ≤ k_) ∧ some k_ ≠ (v290 : Value).ownBlock)) (okp := (fun k_ => (P1_ k_ ∨ w.heap.size ≤ k_) ∧ some k_ ≠ (v290 : Value).ownBlock)) ?hr ?hp (fun _ hk => hk) ((show ∀ k_, w85.heap.size ≤ k_ → (fun k_ => (P1_ k_ ∨ w.heap.size ≤ k_) ∧ some k_ ≠ (v290 : Value).ownBlock) k_ from fun k_ hk => ⟨(.inr (Nat.le_trans (below_size (by repeat (first | (with_reducible first | exact HB.out | apply below_alloc | apply pw_below_drewN | apply below_drew1) | exact HB.out))) hk)), Kd.fresh' (Kd.R_lt (by (with_reducible repeat (first | apply Kd.R_alloc | apply Kd.R_drewN | apply Kd.R_drew)); exact HO291.out)) k_ hk⟩) _ (Nat.le_refl _)) (Below.refl _ _) (Nat.le_refl _) (by simp) ?_; (case hd => rfl); (case hg => rfl); (case hr => first | (go_simp; done) | (go_simp; rfl)); (case hp => exact (Reps.none _ _)); intro v293 w86 ho87 hb hg_ hnew_; clear hg_ hnew_; (first | rw [← Ny292.out] at ho87 | (simp only [Int.reduceToNat] at ho87; rw [← Ny292.out] at ho87)); have n0_ := Aside0.mk (Kd.V_elder' (by (with_reducible repeat (first | apply Kd.V_alloc | apply Kd.V_drewN | apply Kd.V_drew)); exact HO_1.out) (Kd.N_base ho87) hb); have n1_ := Aside0.mk (Kd.R_below (by (with_reducible repeat (first | apply Kd.R_alloc | apply Kd.R_drewN | apply Kd.R_drew)); exact HO291.out) hb); have n2_ := Aside0.mk (Kd.N_lower ho87 (below_size (by repeat (first | (with_reducible first | exact HB.out | apply below_alloc | apply pw_below_drewN | apply below_drew1) | exact HB.out)))); have n3_ := Aside0.mk (below_step (by repeat (first | (with_reducible first | exact HB.out | apply below_alloc | apply pw_below_drewN | apply below_drew1) | exact HB.out)) hb); clear HO_1; clear HO291; clear HB; have HO_1 := n0_; have HO291 := n1_; have HO294 := n2_; have HB := n3_; clear n0_ n1_ n2_ n3_; clear hb ho87) | ((with_reducible refine gate_builtin (b := .append) (xs := #[.tmp 64, .tmp 65]) rfl ?_); (try (refine gate_guard (by rfl) ?_; dsimp only)); at_builtin; refine Kd.N_append_rows k34 (w0 := w) w.heap.size rfl (.tmp 64) (.tmp 65) 23 34 (.agg #[(.string ⟨#[]⟩), (.int .i64 0), (.slice none 0 0), (.slice none 0 0)]) 72 rfl Tryd.underlying23 info34 rfl (by decide) (by omega) v293 y292 l1 _ _ _ (fun k_ => (P1_ k_ ∨ w.heap.size ≤ k_) ∧ some k_ ≠ (v290 : Value).ownBlock) (fun k_ => ((fun k_ => (P1_ k_ ∨ w.heap.size ≤ k_) ∧ some k_ ≠ (v290 : Value).ownBlock)) k_ ∧ some k_ ≠ (v293 : Value).ownBlock) rfl rfl ?aO ?aR (fun _ hk => hk) ?aF ?aB ?aS ?aL ?_; (case aR => exact (by skip; exact Kd.V_F (Kd.V_mono (ok' := (fun k_ => ((fun k_ => (P1_ k_ ∨ w.heap.size ≤ k_) ∧ some k_ ≠ (v290 : Value).ownBlock)) k_ ∧ some k_ ≠ (v293 : Value).ownBlock)) (HO_1.out) (fun k_ hk => ⟨⟨hk.1.1, hk.1.2⟩, hk.2⟩)))); (case aB => exact (by repeat (first | (with_reducible first | exact HB.out | apply below_alloc | apply pw_below_drewN | apply below_drew1) | exact HB.out))); (case aF => exact (fun k_ hk => ⟨(.inr (Nat.le_trans (below_size (by repeat (first | (with_reducible first | exact HB.out | apply below_alloc | apply pw_below_drewN | apply below_drew1) | exact HB.out))) hk)), Kd.fresh' (Kd.R_lt (by (with_reducible repeat (first | apply Kd.R_alloc | apply Kd.R_drewN | apply Kd.R_drew)); exact HO291.out)) k_ hk⟩)); (case aO => exact (by (with_reducible repeat (first | apply Kd.N_alloc | apply Kd.N_drewN | apply Kd.N_drew)); exact HO294.out)); (case aS => exact (below_size (by repeat (first | (with_reducible first | exact HB.out | apply below_alloc | apply pw_below_drewN | apply below_drew1) | exact HB.out)))); (case aL => have := LMc26.out; omega); intro v296 w88 ho hb hg hat; rw [← Ny295.out] at ho; have n0_ := Aside0.mk (Kd.V_afterv (ok := (fun k_ => (P1_ k_ ∨ w.heap.size ≤ k_) ∧ some k_ ≠ (v290 : Value).ownBlock)) (by (with_reducible repeat (first | apply Kd.V_alloc | apply Kd.V_drewN | apply Kd.V_drew)); exact HO_1.out) hg hat); have n1_ := Aside0.mk (Kd.R_over' (by (with_reducible repeat (first | apply Kd.R_alloc | apply Kd.R_drewN | apply Kd.R_drew)); exact HO291.out) (Kd.N_typed (by (with_reducible repeat (first | apply Kd.N_alloc | apply Kd.N_drewN | apply Kd.N_drew)); exact HO294.out)) (by decide) hg); have n2_ := Aside0.mk (hb); have n3_ := Aside0.mk (ho); clear HO_1; clear HO291; clear HB; clear HO294; have HO_1 := n0_; have HO291 := n1_; have HB := n2_; have HO297 := n3_; clear n0_ n1_ n2_ n3_; clear ho hb hg hat) | ((with_reducible refine gate_builtin (b := .append) (xs := #[.tmp 66, .tmp 69]) rfl ?_); (try (refine gate_guard (by rfl) ?_; dsimp only)); at_builtin; refine Kd.N_append k34 (w0 := w) w.heap.size rfl (.tmp 66) (.tmp 69) 23 34 (.agg #[(.string ⟨#[]⟩), (.int .i64 0), (.slice none 0 0), (.slice none 0 0)]) 72 rfl Tryd.underlying23 info34 rfl (by decide) (by omega) v296 y295 (⟨a2, 1, ([] : List ByteArray), ([] : List (S68))⟩ : S34) [.string a2, .int .i64 1, .slice none 0 0, .slice none 0 0] (fun k_ => (P1_ k_ ∨ w.heap.size ≤ k_) ∧ some k_ ≠ (v290 : Value).ownBlock) (fun k_ => ((fun k_ => (P1_ k_ ∨ w.heap.size ≤ k_) ∧ some k_ ≠ (v290 : Value).ownBlock)) k_ ∧ some k_ ≠ (v296 : Value).ownBlock) rfl rfl ?aP (fun _ hk => hk) ?aF ?aO ?aB ?aS ?aL ?_; (case aP => exact (k34_mkF _ _ (⟨a2, 1, ([] : List ByteArray), ([] : List (S68))⟩ : S34) (Nat.le_refl _) (Kd.F_nil _ _ _) (Nat.le_refl _) (Kd.F_nil _ _ _))); (case aB => exact (by repeat (first | (with_reducible first | exact HB.out | apply below_alloc | apply pw_below_drewN | apply below_drew1) | exact HB.out))); (case aF => exact (fun k_ hk => ⟨(.inr (Nat.le_trans (below_size (by repeat (first | (with_reducible first | exact HB.out | apply below_alloc | apply pw_below_drewN | apply below_drew1) | exact HB.out))) hk)), Kd.fresh' (Kd.R_lt (by (with_reducible repeat (first | apply Kd.R_alloc | apply Kd.R_drewN | apply Kd.R_drew)); exact HO291.out)) k_ hk⟩)); (case aO => exact (by (with_reducible repeat (first | apply Kd.N_alloc | apply Kd.N_drewN | apply Kd.N_drew)); exact HO297.out)); (case aS => exact (below_size (by repeat (first | (with_reducible first | exact HB.out | apply below_alloc | apply pw_below_drewN | apply below_drew1) | exact HB.out)))); (case aL => have := LMc27.out; omega); intro v299 w89 ho hb hg hat; rw [← Ny298.out] at ho; have n0_ := Aside0.mk (Kd.V_afterv (ok := (fun k_ => (P1_ k_ ∨ w.heap.size ≤ k_) ∧ some k_ ≠ (v290 : Value).ownBlock)) (by (with_reducible repeat (first | apply Kd.V_alloc | apply Kd.V_drewN | apply Kd.V_drew)); exact HO_1.out) hg hat); have n1_ := Aside0.mk (Kd.R_over' (by (with_reducible repeat (first | apply Kd.R_alloc | apply Kd.R_drewN | apply Kd.R_drew)); exact HO291.out) (Kd.N_typed (by (with_reducible repeat (first | apply Kd.N_alloc | apply Kd.N_drewN | apply Kd.N_drew)); exact HO297.out)) (by decide) hg); have n2_ := Aside0.mk (hb); have n3_ := Aside0.mk (ho); clear HO_1; clear HO291; clear HB; clear HO297; have HO_1 := n0_; have HO291 := n1_; have HB := n2_; have HO300 := n3_; clear n0_ n1_ n2_ n3_; clear ho hb hg hat; obtain ⟨Ao90, co90, eo90⟩ := Kd.N_slice HO300.out; subst eo90) | (go_at_call 10; (with_reducible refine (plan_Order.calls k2 _ _ l0 _ _ y298 t301 t302 t303 _ ?side1 ?side2 ?side3 ?side4 A28.out).mono ?_); (case side1 => repeat (first | exact (Kd.C_below HR0.out HB.out) | (with_reducible refine Kd.C_alloc ?_ _) | (with_reducible refine Kd.C_drewN ?_ _) | (with_reducible refine Kd.C_drew ?_))); (case side2 => exact HC0.out); (case side3 => repeat (first | exact (Kd.N_reads' HO300.out).2.2 | (with_reducible refine Kd.C_alloc ?_ _) | (with_reducible refine Kd.C_drewN ?_ _) | (with_reducible refine Kd.C_drew ?_))); (case side4 => exact (Kd.N_reads' HO300.out).2.1); rintro e w91 ⟨v304, rfl, ho0, hb⟩; have n0_ := Aside0.mk (Kd.V_elder' (by (with_reducible repeat (first | apply Kd.V_alloc | apply Kd.V_drewN | apply Kd.V_drew)); exact HO_1.out) (Kd.R_base ho0) hb); have n1_ := Aside0.mk (Kd.R_elder' (by (with_reducible repeat (first | apply Kd.R_alloc | apply Kd.R_drewN | apply Kd.R_drew)); exact HO291.out) (Kd.R_base ho0) hb); have n2_ := Aside0.mk (Kd.N_elder' (by (with_reducible repeat (first | apply Kd.N_alloc | apply Kd.N_drewN | apply Kd.N_drew)); exact HO300.out) (Kd.R_base ho0) hb); have n3_ := Aside0.mk (Kd.R_lower (Kd.R_new' (Kd.R_newM (M := fun k_ => (w.heap.size ≤ k_)) ho0 (below_size (by repeat (first | (with_reducible first | exact HB.out | apply below_alloc | apply pw_below_drewN | apply below_drew1) | exact HB.out))) (fun k_ h_ => h_)) (Kd.R_lt (by (with_reducible repeat (first | apply Kd.R_alloc | apply Kd.R_drewN | apply Kd.R_drew)); exact HO291.out))) (below_size (by repeat (first | (with_reducible first | exact HB.out | apply below_alloc | apply pw_below_drewN | apply below_drew1) | exact HB.out)))); have n4_ := Aside0.mk (below_step (by repeat (first | (with_reducible first | exact HB.out | apply below_alloc | apply pw_below_drewN | apply below_drew1) | exact HB.out)) hb); clear HO_1; clear HO291; clear HO300; clear HB; have HO_1 := n0_; have HO291 := n1_; have HO300 := n2_; have HO305 := n3_; have HB := n4_; clear n0_ n1_ n2_ n3_ n4_; (try clear hb); (try clear hb2); (try clear hk); (try clear hi); (try clear ho0)) | (go_at_call 13; (with_reducible refine (monticuleref06_Class.calls k2 a2 false _ A29.out).mono ?_); rintro e w' ⟨rfl, ⟨nd, rfl⟩⟩; (try first | exact ⟨rfl, _, World.drewN_drewN _ _ _⟩ | exact ⟨rfl, _, Eq.trans (World.drewN_drewN _ _ _) (congrArg (World.drewN _) (Nat.add_assoc _ _ _))⟩)))
                          go_ret
                          exact ⟨by first | rfl | (simp [errW_none, errW_some] <;> rfl) | (simp [*, errW_none, errW_some] <;> rfl), by repeat (first | (with_reducible first | exact HB.out | apply below_alloc | apply pw_below_drewN | apply below_drew1) | exact HB.out)⟩
                      · rw [if_neg c76] at H
                        have c76b0 : (t302 == 0) = false := beq_eq_false_iff_ne.mpr c76
                        have c76b1 : (t302 != 0) = true := bne_iff_ne.mpr c76
                        obtain rfl := Option.some.inj H
                        go_wp2_with (first | (go_at_call 10; (with_reducible refine (plan_Order.calls k2 _ _ l0 _ _ l1 t287 t288 t289 _ ?side1 ?side2 ?side3 ?side4 A25.out).mono ?_); (case side1 => repeat (first | exact (Kd.C_below HR0.out HB.out) | (with_reducible refine Kd.C_alloc ?_ _) | (with_reducible refine Kd.C_drewN ?_ _) | (with_reducible refine Kd.C_drew ?_))); (case side2 => exact HC0.out); (case side3 => repeat (first | exact (Kd.V_reads' HO_1.out).2.2 | (with_reducible refine Kd.C_alloc ?_ _) | (with_reducible refine Kd.C_drewN ?_ _) | (with_reducible refine Kd.C_drew ?_))); (case side4 => exact (Kd.V_reads' HO_1.out).2.1); rintro e w92 ⟨v290, rfl, ho0, hb⟩; have n0_ := Aside0.mk (Kd.V_elder' (by (with_reducible repeat (first | apply Kd.V_alloc | apply Kd.V_drewN | apply Kd.V_drew)); exact HO_1.out) (Kd.R_base ho0) hb); have n1_ := Aside0.mk (Kd.R_lower (Kd.R_newM (M := fun k_ => (w.heap.size ≤ k_)) ho0 (below_size (by repeat (first | (with_reducible first | exact HB.out | apply below_alloc | apply pw_below_drewN | apply below_drew1) | exact HB.out))) (fun k_ h_ => h_)) (below_size (by repeat (first | (with_reducible first | exact HB.out | apply below_alloc | apply pw_below_drewN | apply below_drew1) | exact HB.out)))); have n2_ := Aside0.mk (below_step (by repeat (first | (with_reducible first | exact HB.out | apply below_alloc | apply pw_below_drewN | apply below_drew1) | exact HB.out)) hb); clear HO_1; clear HB; have HO_1 := n0_; have HO291 := n1_; have HB := n2_; clear n0_ n1_ n2_; (try clear hb); (try clear hb2); (try clear hk); (try clear hi); (try clear ho0)) | ((with_reducible refine gate_dst (N := 64) rfl ?_); (try (refine gate_guard (by rfl) ?_; dsimp only)); refine Kd.N_lit k34 _ 34 ?hg (N' := 64) ?hd (xs := ([] : List (S34))) (inner := []) (ok := (fun k_ => (P1_ k_ ∨ w.heap.size ≤ k_) ∧ some k_ ≠ (v290 : Value).ownBlock)) (okp := (fun k_ => (P1_ k_ ∨ w.heap.size ≤ k_) ∧ some k_ ≠ (v290 : Value).ownBlock)) ?hr ?hp (fun _ hk => hk) ((show ∀ k_, w92.heap.size ≤ k_ → (fun k_ => (P1_ k_ ∨ w.heap.size ≤ k_) ∧ some k_ ≠ (v290 : Value).ownBlock) k_ from fun k_ hk => ⟨(.inr (Nat.le_trans (below_size (by repeat (first | (with_reducible first | exact HB.out | apply below_alloc | apply pw_below_drewN | apply below_drew1) | exact HB.out))) hk)), Kd.fresh' (Kd.R_lt (by (with_reducible repeat (first | apply Kd.R_alloc | apply Kd.R_drewN | apply Kd.R_drew)); exact HO291.out)) k_ hk⟩) _ (Nat.le_refl _)) (Below.refl _ _) (Nat.le_refl _) (by simp) ?_; (case hd => rfl); (case hg => rfl); (case hr => first | (go_simp; done) | (go_simp; rfl)); (case hp => exact (Reps.none _ _)); intro v293 w93 ho94 hb hg_ hnew_; clear hg_ hnew_; (first | rw [← Ny292.out] at ho94 | (simp only [Int.reduceToNat] at ho94; rw [← Ny292.out] at ho94)); have n0_ := Aside0.mk (Kd.V_elder' (by (with_reducible repeat (first | apply Kd.V_alloc | apply Kd.V_drewN | apply Kd.V_drew)); exact HO_1.out) (Kd.N_base ho94) hb); have n1_ := Aside0.mk (Kd.R_below (by (with_reducible repeat (first | apply Kd.R_alloc | apply Kd.R_drewN | apply Kd.R_drew)); exact HO291.out) hb); have n2_ := Aside0.mk (Kd.N_lower ho94 (below_size (by repeat (first | (with_reducible first | exact HB.out | apply below_alloc | apply pw_below_drewN | apply below_drew1) | exact HB.out)))); have n3_ := Aside0.mk (below_step (by repeat (first | (with_reducible first | exact HB.out | apply below_alloc | apply pw_below_drewN | apply below_drew1) | exact HB.out)) hb); clear HO_1; clear HO291; clear HB; have HO_1 := n0_; have HO291 := n1_; have HO294 := n2_; have HB := n3_; clear n0_ n1_ n2_ n3_; clear hb ho94) | ((with_reducible refine gate_builtin (b := .append) (xs := #[.tmp 64, .tmp 65]) rfl ?_); (try (refine gate_guard (by rfl) ?_; dsimp only)); at_builtin; refine Kd.N_append_rows k34 (w0 := w) w.heap.size rfl (.tmp 64) (.tmp 65) 23 34 (.agg #[(.string ⟨#[]⟩), (.int .i64 0), (.slice none 0 0), (.slice none 0 0)]) 72 rfl Tryd.underlying23 info34 rfl (by decide) (by omega) v293 y292 l1 _ _ _ (fun k_ => (P1_ k_ ∨ w.heap.size ≤ k_) ∧ some k_ ≠ (v290 : Value).ownBlock) (fun k_ => ((fun k_ => (P1_ k_ ∨ w.heap.size ≤ k_) ∧ some k_ ≠ (v290 : Value).ownBlock)) k_ ∧ some k_ ≠ (v293 : Value).ownBlock) rfl rfl ?aO ?aR (fun _ hk => hk) ?aF ?aB ?aS ?aL ?_; (case aR => exact (by skip; exact Kd.V_F (Kd.V_mono (ok' := (fun k_ => ((fun k_ => (P1_ k_ ∨ w.heap.size ≤ k_) ∧ some k_ ≠ (v290 : Value).ownBlock)) k_ ∧ some k_ ≠ (v293 : Value).ownBlock)) (HO_1.out) (fun k_ hk => ⟨⟨hk.1.1, hk.1.2⟩, hk.2⟩)))); (case aB => exact (by repeat (first | (with_reducible first | exact HB.out | apply below_alloc | apply pw_below_drewN | apply below_drew1) | exact HB.out))); (case aF => exact (fun k_ hk => ⟨(.inr (Nat.le_trans (below_size (by repeat (first | (with_reducible first | exact HB.out | apply below_alloc | apply pw_below_drewN | apply below_drew1) | exact HB.out))) hk)), Kd.fresh' (Kd.R_lt (by (with_reducible repeat (first | apply Kd.R_alloc | apply Kd.R_drewN | apply Kd.R_drew)); exact HO291.out)) k_ hk⟩)); (case aO => exact (by (with_reducible repeat (first | apply Kd.N_alloc | apply Kd.N_drewN | apply Kd.N_drew)); exact HO294.out)); (case aS => exact (below_size (by repeat (first | (with_reducible first | exact HB.out | apply below_alloc | apply pw_below_drewN | apply below_drew1) | exact HB.out)))); (case aL => have := LMc26.out; omega); intro v296 w95 ho hb hg hat; rw [← Ny295.out] at ho; have n0_ := Aside0.mk (Kd.V_afterv (ok := (fun k_ => (P1_ k_ ∨ w.heap.size ≤ k_) ∧ some k_ ≠ (v290 : Value).ownBlock)) (by (with_reducible repeat (first | apply Kd.V_alloc | apply Kd.V_drewN | apply Kd.V_drew)); exact HO_1.out) hg hat); have n1_ := Aside0.mk (Kd.R_over' (by (with_reducible repeat (first | apply Kd.R_alloc | apply Kd.R_drewN | apply Kd.R_drew)); exact HO291.out) (Kd.N_typed (by (with_reducible repeat (first | apply Kd.N_alloc | apply Kd.N_drewN | apply Kd.N_drew)); exact HO294.out)) (by decide) hg); have n2_ := Aside0.mk (hb); have n3_ := Aside0.mk (ho); clear HO_1; clear HO291; clear HB; clear HO294; have HO_1 := n0_; have HO291 := n1_; have HB := n2_; have HO297 := n3_; clear n0_ n1_ n2_ n3_; clear ho hb hg hat) | ((with_reducible refine gate_builtin (b := .append) (xs := #[.tmp 66, .tmp 69]) rfl ?_); (try (refine gate_guard (by rfl) ?_; dsimp only)); at_builtin; refine Kd.N_append k34 (w0 := w) w.heap.size rfl (.tmp 66) (.tmp 69) 23 34 (.agg #[(.string ⟨#[]⟩), (.int .i64 0), (.slice none 0 0), (.slice none 0 0)]) 72 rfl Tryd.underlying23 info34 rfl (by decide) (by omega) v296 y295 (⟨a2, 1, ([] : List ByteArray), ([] : List (S68))⟩ : S34) [.string a2, .int .i64 1, .slice none 0 0, .slice none 0 0] (fun k_ => (P1_ k_ ∨ w.heap.size ≤ k_) ∧ some k_ ≠ (v290 : Value).ownBlock) (fun k_ => ((fun k_ => (P1_ k_ ∨ w.heap.size ≤ k_) ∧ some k_ ≠ (v290 : Value).ownBlock)) k_ ∧ some k_ ≠ (v296 : Value).ownBlock) rfl rfl ?aP (fun _ hk => hk) ?aF ?aO ?aB ?aS ?aL ?_; (case aP => exact (k34_mkF _ _ (⟨a2, 1, ([] : List ByteArray), ([] : List (S68))⟩ : S34) (Nat.le_refl _) (Kd.F_nil _ _ _) (Nat.le_refl _) (Kd.F_nil _ _ _))); (case aB => exact (by repeat (first | (with_reducible first | exact HB.out | apply below_alloc | apply pw_below_drewN | apply below_drew1) | exact HB.out))); (case aF => exact (fun k_ hk => ⟨(.inr (Nat.le_trans (below_size (by repeat (first | (with_reducible first | exact HB.out | apply below_alloc | apply pw_below_drewN | apply below_drew1) | exact HB.out))) hk)), Kd.fresh' (Kd.R_lt (by (with_reducible repeat (first | apply Kd.R_alloc | apply Kd.R_drewN | apply Kd.R_drew)); exact HO291.out)) k_ hk⟩)); (case aO => exact (by (with_reducible repeat (first | apply Kd.N_alloc | apply Kd.N_drewN | apply Kd.N_drew)); exact HO297.out)); (case aS => exact (below_size (by repeat (first | (with_reducible first | exact HB.out | apply below_alloc | apply pw_below_drewN | apply below_drew1) | exact HB.out)))); (case aL => have := LMc27.out; omega); intro v299 w96 ho hb hg hat; rw [← Ny298.out] at ho; have n0_ := Aside0.mk (Kd.V_afterv (ok := (fun k_ => (P1_ k_ ∨ w.heap.size ≤ k_) ∧ some k_ ≠ (v290 : Value).ownBlock)) (by (with_reducible repeat (first | apply Kd.V_alloc | apply Kd.V_drewN | apply Kd.V_drew)); exact HO_1.out) hg hat); have n1_ := Aside0.mk (Kd.R_over' (by (with_reducible repeat (first | apply Kd.R_alloc | apply Kd.R_drewN | apply Kd.R_drew)); exact HO291.out) (Kd.N_typed (by (with_reducible repeat (first | apply Kd.N_alloc | apply Kd.N_drewN | apply Kd.N_drew)); exact HO297.out)) (by decide) hg); have n2_ := Aside0.mk (hb); have n3_ := Aside0.mk (ho); clear HO_1; clear HO291; clear HB; clear HO297; have HO_1 := n0_; have HO291 := n1_; have HB := n2_; have HO300 := n3_; clear n0_ n1_ n2_ n3_; clear ho hb hg hat; obtain ⟨Ao97, co97, eo97⟩ := Kd.N_slice HO300.out; subst eo97) | (go_at_call 10; (with_reducible refine (plan_Order.calls k2 _ _ l0 _ _ y298 t301 t302 t303 _ ?side1 ?side2 ?side3 ?side4 A28.out).mono ?_); (case side1 => repeat (first | exact (Kd.C_below HR0.out HB.out) | (with_reducible refine Kd.C_alloc ?_ _) | (with_reducible refine Kd.C_drewN ?_ _) | (with_reducible refine Kd.C_drew ?_))); (case side2 => exact HC0.out); (case side3 => repeat (first | exact (Kd.N_reads' HO300.out).2.2 | (with_reducible refine Kd.C_alloc ?_ _) | (with_reducible refine Kd.C_drewN ?_ _) | (with_reducible refine Kd.C_drew ?_))); (case side4 => exact (Kd.N_reads' HO300.out).2.1); rintro e w98 ⟨v304, rfl, ho0, hb⟩; have n0_ := Aside0.mk (Kd.V_elder' (by (with_reducible repeat (first | apply Kd.V_alloc | apply Kd.V_drewN | apply Kd.V_drew)); exact HO_1.out) (Kd.R_base ho0) hb); have n1_ := Aside0.mk (Kd.R_elder' (by (with_reducible repeat (first | apply Kd.R_alloc | apply Kd.R_drewN | apply Kd.R_drew)); exact HO291.out) (Kd.R_base ho0) hb); have n2_ := Aside0.mk (Kd.N_elder' (by (with_reducible repeat (first | apply Kd.N_alloc | apply Kd.N_drewN | apply Kd.N_drew)); exact HO300.out) (Kd.R_base ho0) hb); have n3_ := Aside0.mk (Kd.R_lower (Kd.R_new' (Kd.R_newM (M := fun k_ => (w.heap.size ≤ k_)) ho0 (below_size (by repeat (first | (with_reducible first | exact HB.out | apply below_alloc | apply pw_below_drewN | apply below_drew1) | exact HB.out))) (fun k_ h_ => h_)) (Kd.R_lt (by (with_reducible repeat (first | apply Kd.R_alloc | apply Kd.R_drewN | apply Kd.R_drew)); exact HO291.out))) (below_size (by repeat (first | (with_reducible first | exact HB.out | apply below_alloc | apply pw_below_drewN | apply below_drew1) | exact HB.out)))); have n4_ := Aside0.mk (below_step (by repeat (first | (with_reducible first | exact HB.out | apply below_alloc | apply pw_below_drewN | apply below_drew1) | exact HB.out)) hb); clear HO_1; clear HO291; clear HO300; clear HB; have HO_1 := n0_; have HO291 := n1_; have HO300 := n2_; have HO305 := n3_; have HB := n4_; clear n0_ n1_ n2_ n3_ n4_; (try clear hb); (try clear hb2); (try clear hk); (try clear hi); (try clear ho0)) | (go_at_call 13; (with_reducible refine (monticuleref06_Class.calls k2 a2 false _ A29.out).mono ?_); rintro e w' ⟨rfl, ⟨nd, rfl⟩⟩; (try first | exact ⟨rfl, _, World.drewN_drewN _ _ _⟩ | exact ⟨rfl, _, Eq.trans (World.drewN_drewN _ _ _) (congrArg (World.drewN _) (Nat.add_assoc _ _ _))⟩)))
                        go_ret
                        exact ⟨by first | rfl | (simp [errW_none, errW_some] <;> rfl) | (simp [*, errW_none, errW_some] <;> rfl), by repeat (first | (with_reducible first | exact HB.out | apply below_alloc | apply pw_below_drewN | apply below_drew1) | exact HB.out)⟩
                · rw [if_neg c27] at H
                  exact absurd H (by simp)
              · rw [if_neg c26] at H
                exact absurd H (by simp)

end Go.Proofs.YtllgcnckaodjkaaDoor.Q
