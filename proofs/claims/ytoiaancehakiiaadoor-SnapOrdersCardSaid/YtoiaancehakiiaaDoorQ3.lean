-- Printed for this claim by a program of the session's own over the kit's printer; Lean checks it.
import Derived.Test.YtoiaancehakiiaaDoorQ0
import Derived.Test.YtoiaancehakiiaaDoorQ2
namespace Go.Proofs.YtoiaancehakiiaaDoor.Q
open Go.RowKit Go.Proofs.YtoiaancehakiiaaDoorW.PrintWords Go.Proofs.YtoiaancehakiiaaDoorW.PrintLast Go.Proofs.YtoiaancehakiiaaDoorW.PrintMore
attribute [local go_sem] max2_int min2_int max_two min_two max_three min_three max_four min_four   -- for this text's walks alone
set_option linter.unusedVariables false
set_option linter.unusedSimpArgs false

/-! ### monticuleref06_Is: function 65 -/
mutual
def monticuleref06_Is.j0 : Nat → ByteArray → Bool → Option (Bool)
  | 0, _, _ => none
  | k + 1, x0, x17 => if x17 = true then (some false) else (monticuleref06_Is.l0 k x0 0)
def monticuleref06_Is.l0 : Nat → ByteArray → Int → Option (Bool)
  | 0, _, _ => none
  | k + 1, x0, x3 => if x3 < (x0.size : Int) then (if 0 ≤ x3 then ((monticuleref06_letter.f (bt x0 x3)).bind fun t143 => (if t143 = true then (monticuleref06_Is.l0 k x0 (wrap64 (x3 + 1))) else (if (bt x0 x3) < 48 then (some false) else (if (bt x0 x3) > 57 then (some false) else (monticuleref06_Is.l0 k x0 (wrap64 (x3 + 1))))))) else (none)) else (some true)
end
def monticuleref06_Is.f (k : Nat) (a0 : ByteArray) : Option (Bool) := if (a0.size : Int) < 1 then (monticuleref06_Is.j0 k a0 true) else (if (a0.size : Int) > 40 then (monticuleref06_Is.j0 k a0 true) else (if 0 < (a0.size : Int) then ((monticuleref06_letter.f (bt a0 0)).bind fun t142 => (monticuleref06_Is.j0 k a0 (!t142))) else (none)))
theorem monticuleref06_Is.mono_l : ∀ k, (∀ y0 y1, LeO (monticuleref06_Is.j0 k y0 y1) (monticuleref06_Is.j0 (k + 1) y0 y1)) ∧ (∀ y0 y1, LeO (monticuleref06_Is.l0 k y0 y1) (monticuleref06_Is.l0 (k + 1) y0 y1))
  | 0 => ⟨fun _ _ r h => by simp [monticuleref06_Is.j0] at h, fun _ _ r h => by simp [monticuleref06_Is.l0] at h⟩
  | k + 1 => by
    obtain ⟨ih0, ih1⟩ := monticuleref06_Is.mono_l k
    refine ⟨?_, ?_⟩
    · intro y0 y1
      unfold monticuleref06_Is.j0
      repeat' first
      | (with_reducible exact ih0 _ _)
      | (with_reducible exact ih1 _ _)
      | (with_reducible exact LeO.refl _)
      | (with_reducible exact LeO.none _)
      | (with_reducible refine LeO.ite ?_ ?_)
      | (with_reducible refine LeO.bind ?_ (fun _ => ?_))
      | exact ih0 _ _
      | exact ih1 _ _
      | exact LeO.none _
      | refine LeO.ite ?_ ?_
      | refine LeO.bind ?_ (fun _ => ?_)
    · intro y0 y1
      unfold monticuleref06_Is.l0
      repeat' first
      | (with_reducible exact ih0 _ _)
      | (with_reducible exact ih1 _ _)
      | (with_reducible exact LeO.refl _)
      | (with_reducible exact LeO.none _)
      | (with_reducible refine LeO.ite ?_ ?_)
      | (with_reducible refine LeO.bind ?_ (fun _ => ?_))
      | exact ih0 _ _
      | exact ih1 _ _
      | exact LeO.none _
      | refine LeO.ite ?_ ?_
      | refine LeO.bind ?_ (fun _ => ?_)
theorem monticuleref06_Is.mono : ∀ a0 k, LeO (monticuleref06_Is.f k a0) (monticuleref06_Is.f (k + 1) a0) := by
  intro a0 k
  obtain ⟨ih0, ih1⟩ := monticuleref06_Is.mono_l k
  unfold monticuleref06_Is.f
  repeat' first
      | (with_reducible exact ih0 _ _)
      | (with_reducible exact ih1 _ _)
      | (with_reducible exact LeO.refl _)
      | (with_reducible exact LeO.none _)
      | (with_reducible refine LeO.ite ?_ ?_)
      | (with_reducible refine LeO.bind ?_ (fun _ => ?_))
      | exact ih0 _ _
      | exact ih1 _ _
      | exact LeO.none _
      | refine LeO.ite ?_ ?_
      | refine LeO.bind ?_ (fun _ => ?_)
set_option maxHeartbeats 8000000 in
set_option maxRecDepth 100000 in
theorem monticuleref06_Is.calls (k : Nat) (a0 : ByteArray) (r : Bool) (w : World) (h : monticuleref06_Is.f k a0 = some r) :
    Calls Tryd.prog 65 #[.string a0] w fun e w' => e = .returned (.bool r) ∧ Drawn0 w w' := by
  have H : (if (a0.size : Int) < 1 then (monticuleref06_Is.j0 k a0 true) else (if (a0.size : Int) > 40 then (monticuleref06_Is.j0 k a0 true) else (if 0 < (a0.size : Int) then ((monticuleref06_letter.f (bt a0 0)).bind fun t142 => (monticuleref06_Is.j0 k a0 (!t142))) else (none)))) = some r := h
  clear h
  have HC2 := Aside0.mk H
  clear H
  go_enter Tryd.func65, Tryd.ntmps65
  go_upto_region 1 with (fail)
  go_cut [17] (fun v17 wc => ∃ (kq : Nat) (x17_1 : Bool), v17 = .bool x17_1 ∧ Aside0 (monticuleref06_Is.j0 kq a0 x17_1 = some r) ∧ Aside0 (kq ≤ k) ∧ Drawn0 w wc)
  case first =>
    have H := HC2.out
    clear HC2
    by_cases c3 : (a0.size : Int) < 1
    · rw [if_pos c3] at H
      have c3b0 : decide ((a0.size : Int) < 1) = true := decide_eq_true c3
      have c3b1 : decide (a0.size < 1) = true := decide_eq_true (by omega)
      clear c3
      (first | rw [c3b0] | (simp only [i64_w, i32_w]; rw [c3b0]) | skip)
      have H' := Aside0.mk H
      clear H
      go_wp2
      go_meet
      case rel => exact ⟨_, (true), (by first | rfl | (simp; done) | (simp [*]; done)), H', ⟨by first | omega | exact Nat.le_refl _⟩, by repeat (first | exact Drawn0.refl _ | apply Drawn0.step)⟩
    · rw [if_neg c3] at H
      have c3b0 : decide ((a0.size : Int) < 1) = false := decide_eq_false c3
      have c3b1 : decide (a0.size < 1) = false := decide_eq_false (by omega)
      clear c3
      (first | rw [c3b0] | (simp only [i64_w, i32_w]; rw [c3b0]) | skip)
      by_cases c4 : (a0.size : Int) > 40
      · rw [if_pos c4] at H
        have c4b0 : decide (40 < (a0.size : Int)) = true := decide_eq_true c4
        have c4b1 : decide (40 < a0.size) = true := decide_eq_true (by omega)
        clear c4
        have H' := Aside0.mk H
        clear H
        go_wp2
        go_meet
        case rel => exact ⟨_, (true), (by first | rfl | (simp; done) | (simp [*]; done)), H', ⟨by first | omega | exact Nat.le_refl _⟩, by repeat (first | exact Drawn0.refl _ | apply Drawn0.step)⟩
      · rw [if_neg c4] at H
        have c4b0 : decide (40 < (a0.size : Int)) = false := decide_eq_false c4
        have c4b1 : decide (40 < a0.size) = false := decide_eq_false (by omega)
        clear c4
        by_cases c5 : 0 < (a0.size : Int)
        · rw [if_pos c5] at H
          have c5b0 : decide (0 < (a0.size : Int)) = true := decide_eq_true c5
          have c5b1 : decide (0 < a0.size) = true := decide_eq_true (by omega)
          clear c5
          replace H := Option.bind_eq_some_iff.mp H
          obtain ⟨t142, A70, H⟩ := H
          replace H : (monticuleref06_Is.j0 k a0 (!t142)) = some r := H
          have A7 := Aside0.mk A70
          clear A70
          have H' := Aside0.mk H
          clear H
          have p6 : 0 ≤ (0 : Int) := (by omega)
          have q6 : 0 < a0.size := (by have : (0 : Int) < (a0.size : Int) := of_decide_eq_true (by first | (with_reducible assumption) | assumption); omega)
          have hx6 : ∀ h : 0 < a0.size, ((a0[0]'h).toNat : Int) = bt a0 0 := bt_at a0 0
          clear p6
          have qi6 : (0 < (a0.size : Int)) = True := eq_true (of_decide_eq_true (by first | (with_reducible assumption) | assumption))
          replace q6 := eq_true q6
          go_wp2_with (first | (go_at_call 78; (with_reducible refine (monticuleref06_letter.calls (bt a0 0) t142 _ A7.out).mono ?_); rintro e w' ⟨rfl, ⟨nd, rfl⟩⟩))
          go_meet
          case rel => exact ⟨_, (!t142), (by first | rfl | (simp; done) | (simp [*]; done)), H', ⟨by first | omega | exact Nat.le_refl _⟩, by repeat (first | exact Drawn0.refl _ | apply Drawn0.step)⟩
        · rw [if_neg c5] at H
          exact absurd H (by simp)
  case rest =>
    clear HC2
    try clear p2
    try clear c3
    try clear c3b0
    try clear c3b1
    try clear c4
    try clear c4b0
    try clear c4b1
    try clear c5
    try clear c5b0
    try clear c5b1
    try clear c6
    try clear p6
    try clear q6
    try clear hx6
    try clear qi6
    try clear p6
    try clear q6
    obtain ⟨kq, x17_1, rfl, HA, HJ1, ⟨mc1, rfl⟩⟩ := hcut
    cases kq with
    | zero => exact absurd HA.out (by simp [monticuleref06_Is.j0])
    | succ kj1 =>
      have H := HA.out
      clear HA
      simp only [monticuleref06_Is.j0] at H
      by_cases c8 : x17_1 = true
      · subst c8
        have H1 : (some false) = some r := by rw [if_pos rfl] at H; exact H
        clear H
        have H := H1
        clear H1
        obtain rfl := Option.some.inj H
        go_wp2
        go_ret
        exact ⟨by first | rfl | (simp; done) | (simp [*]; done), by repeat (first | exact Drawn0.refl _ | apply Drawn0.step)⟩
      · replace c8 := Bool.eq_false_iff.mpr c8
        subst c8
        have H1 : (monticuleref06_Is.l0 kj1 a0 0) = some r := by rw [if_neg (show ¬ (false = true) by decide)] at H; exact H
        clear H
        have H := H1
        clear H1
        have H' := Aside0.mk H
        clear H
        go_wp2
        go_loopg [3] kj1 (fun kq v3 w' => ∃ (x3_2 : Int), v3 = .int .i64 x3_2 ∧ Aside0 (monticuleref06_Is.l0 kq a0 x3_2 = some r) ∧ Aside0 (kq ≤ kj1) ∧ Drawn0 w w')
        case atStart => exact ⟨(0), (by first | rfl | (simp; done) | (simp [*]; done)), H', ⟨Nat.le_refl _⟩, by repeat (first | exact Drawn0.refl _ | apply Drawn0.step)⟩
        case round =>
          clear H'
          try clear c1
          try clear p2
          try clear c3
          try clear c3b0
          try clear c3b1
          try clear c4
          try clear c4b0
          try clear c4b1
          try clear c5
          try clear c5b0
          try clear c5b1
          try clear c6
          try clear p6
          try clear q6
          try clear hx6
          try clear qi6
          try clear c8
          try clear p2
          try clear p6
          try clear q6
          obtain ⟨x3_2, rfl, HA, HK2, ⟨m2, rfl⟩⟩ := hrel
          cases gk with
          | zero => exact absurd HA.out (by simp [monticuleref06_Is.l0])
          | succ k2 =>
            have H := HA.out
            clear HA
            simp only [monticuleref06_Is.l0] at H
            by_cases c9 : x3_2 < (a0.size : Int)
            · rw [if_pos c9] at H
              have c9b0 : decide (x3_2 < (a0.size : Int)) = true := decide_eq_true c9
              clear c9
              by_cases c10 : 0 ≤ x3_2
              · rw [if_pos c10] at H
                have c10b0 : decide (0 ≤ x3_2) = true := decide_eq_true c10
                clear c10
                replace H := Option.bind_eq_some_iff.mp H
                obtain ⟨t143, A120, H⟩ := H
                replace H : (if t143 = true then (monticuleref06_Is.l0 k2 a0 (wrap64 (x3_2 + 1))) else (if (bt a0 x3_2) < 48 then (some false) else (if (bt a0 x3_2) > 57 then (some false) else (monticuleref06_Is.l0 k2 a0 (wrap64 (x3_2 + 1)))))) = some r := H
                have A12 := Aside0.mk A120
                clear A120
                by_cases c13 : t143 = true
                · subst c13
                  have H1 : (monticuleref06_Is.l0 k2 a0 (wrap64 (x3_2 + 1))) = some r := by rw [if_pos rfl] at H; exact H
                  clear H
                  have H := H1
                  clear H1
                  have H' := Aside0.mk H
                  clear H
                  have p11 : 0 ≤ (x3_2 : Int) := of_decide_eq_true (by first | (with_reducible assumption) | assumption)
                  have q11 : x3_2 < (a0.size : Int) := of_decide_eq_true (by first | (with_reducible assumption) | assumption)
                  have hx11 := bt_at a0 x3_2
                  replace p11 := eq_true p11
                  replace q11 := eq_true q11
                  go_wp2_with (first | ((with_reducible refine gate_callee (f := 78) rfl ?_); refine goesL_ (some 27) rfl rfl Tryd.func78 (by kernel_rfl) rfl #[.int .u8 (bt a0 x3_2)] rfl (by (try simp only [List.map_toArray, List.map_cons, List.map_nil]); first | done | rfl | (simp only [List.length_drop, List.length_take]; rfl)) ?_; (with_reducible refine (monticuleref06_letter.calls (bt a0 x3_2) true _ A12.out).mono ?_); rintro e w' ⟨rfl, ⟨nd, rfl⟩⟩; refine ⟨_, rfl, ?_⟩))
                  go_roundg k2
                  case measure => have := HJ1.out; have := HK2.out; omega
                  case rel => exact ⟨(wrap64 (x3_2 + 1)), (by first | rfl | (simp; done) | (simp [*]; done)), H', ⟨by have := HJ1.out; have := HK2.out; omega⟩, by repeat (first | exact Drawn0.refl _ | apply Drawn0.step)⟩
                · replace c13 := Bool.eq_false_iff.mpr c13
                  subst c13
                  have H1 : (if (bt a0 x3_2) < 48 then (some false) else (if (bt a0 x3_2) > 57 then (some false) else (monticuleref06_Is.l0 k2 a0 (wrap64 (x3_2 + 1))))) = some r := by rw [if_neg (show ¬ (false = true) by decide)] at H; exact H
                  clear H
                  have H := H1
                  clear H1
                  by_cases c15 : (bt a0 x3_2) < 48
                  · rw [if_pos c15] at H
                    have c15b0 : decide ((bt a0 x3_2) < 48) = true := decide_eq_true c15
                    clear c15
                    obtain rfl := Option.some.inj H
                    have p11 : 0 ≤ (x3_2 : Int) := of_decide_eq_true (by first | (with_reducible assumption) | assumption)
                    have q11 : x3_2 < (a0.size : Int) := of_decide_eq_true (by first | (with_reducible assumption) | assumption)
                    have hx11 := bt_at a0 x3_2
                    replace p11 := eq_true p11
                    replace q11 := eq_true q11
                    go_wp2_with (first | ((with_reducible refine gate_callee (f := 78) rfl ?_); refine goesL_ (some 27) rfl rfl Tryd.func78 (by kernel_rfl) rfl #[.int .u8 (bt a0 x3_2)] rfl (by (try simp only [List.map_toArray, List.map_cons, List.map_nil]); first | done | rfl | (simp only [List.length_drop, List.length_take]; rfl)) ?_; (with_reducible refine (monticuleref06_letter.calls (bt a0 x3_2) false _ A12.out).mono ?_); rintro e w' ⟨rfl, ⟨nd, rfl⟩⟩; refine ⟨_, rfl, ?_⟩; have p14 : 0 ≤ (x3_2 : Int) := of_decide_eq_true (by first | (with_reducible assumption) | assumption); have q14 : x3_2 < (a0.size : Int) := of_decide_eq_true (by first | (with_reducible assumption) | assumption); have hx14 := bt_at a0 x3_2; replace p14 := eq_true p14; replace q14 := eq_true q14))
                    go_ret
                    exact ⟨by first | rfl | (simp; done) | (simp [*]; done), by repeat (first | exact Drawn0.refl _ | apply Drawn0.step)⟩
                  · rw [if_neg c15] at H
                    have c15b0 : decide ((bt a0 x3_2) < 48) = false := decide_eq_false c15
                    clear c15
                    by_cases c17 : (bt a0 x3_2) > 57
                    · rw [if_pos c17] at H
                      have c17b0 : decide (57 < (bt a0 x3_2)) = true := decide_eq_true c17
                      clear c17
                      obtain rfl := Option.some.inj H
                      have p11 : 0 ≤ (x3_2 : Int) := of_decide_eq_true (by first | (with_reducible assumption) | assumption)
                      have q11 : x3_2 < (a0.size : Int) := of_decide_eq_true (by first | (with_reducible assumption) | assumption)
                      have hx11 := bt_at a0 x3_2
                      replace p11 := eq_true p11
                      replace q11 := eq_true q11
                      go_wp2_with (first | ((with_reducible refine gate_callee (f := 78) rfl ?_); refine goesL_ (some 27) rfl rfl Tryd.func78 (by kernel_rfl) rfl #[.int .u8 (bt a0 x3_2)] rfl (by (try simp only [List.map_toArray, List.map_cons, List.map_nil]); first | done | rfl | (simp only [List.length_drop, List.length_take]; rfl)) ?_; (with_reducible refine (monticuleref06_letter.calls (bt a0 x3_2) false _ A12.out).mono ?_); rintro e w' ⟨rfl, ⟨nd, rfl⟩⟩; refine ⟨_, rfl, ?_⟩; have p14 : 0 ≤ (x3_2 : Int) := of_decide_eq_true (by first | (with_reducible assumption) | assumption); have q14 : x3_2 < (a0.size : Int) := of_decide_eq_true (by first | (with_reducible assumption) | assumption); have hx14 := bt_at a0 x3_2; replace p14 := eq_true p14; replace q14 := eq_true q14; have p16 : 0 ≤ (x3_2 : Int) := of_decide_eq_true (by first | (with_reducible assumption) | assumption); have q16 : x3_2 < (a0.size : Int) := of_decide_eq_true (by first | (with_reducible assumption) | assumption); have hx16 := bt_at a0 x3_2; replace p16 := eq_true p16; replace q16 := eq_true q16))
                      go_ret
                      exact ⟨by first | rfl | (simp; done) | (simp [*]; done), by repeat (first | exact Drawn0.refl _ | apply Drawn0.step)⟩
                    · rw [if_neg c17] at H
                      have c17b0 : decide (57 < (bt a0 x3_2)) = false := decide_eq_false c17
                      clear c17
                      have H' := Aside0.mk H
                      clear H
                      have p11 : 0 ≤ (x3_2 : Int) := of_decide_eq_true (by first | (with_reducible assumption) | assumption)
                      have q11 : x3_2 < (a0.size : Int) := of_decide_eq_true (by first | (with_reducible assumption) | assumption)
                      have hx11 := bt_at a0 x3_2
                      replace p11 := eq_true p11
                      replace q11 := eq_true q11
                      go_wp2_with (first | ((with_reducible refine gate_callee (f := 78) rfl ?_); refine goesL_ (some 27) rfl rfl Tryd.func78 (by kernel_rfl) rfl #[.int .u8 (bt a0 x3_2)] rfl (by (try simp only [List.map_toArray, List.map_cons, List.map_nil]); first | done | rfl | (simp only [List.length_drop, List.length_take]; rfl)) ?_; (with_reducible refine (monticuleref06_letter.calls (bt a0 x3_2) false _ A12.out).mono ?_); rintro e w' ⟨rfl, ⟨nd, rfl⟩⟩; refine ⟨_, rfl, ?_⟩; have p14 : 0 ≤ (x3_2 : Int) := of_decide_eq_true (by first | (with_reducible assumption) | assumption); have q14 : x3_2 < (a0.size : Int) := of_decide_eq_true (by first | (with_reducible assumption) | assumption); have hx14 := bt_at a0 x3_2; replace p14 := eq_true p14; replace q14 := eq_true q14; have p16 : 0 ≤ (x3_2 : Int) := of_decide_eq_true (by first | (with_reducible assumption) | assumption); have q16 : x3_2 < (a0.size : Int) := of_decide_eq_true (by first | (with_reducible assumption) | assumption); have hx16 := bt_at a0 x3_2; replace p16 := eq_true p16; replace q16 := eq_true q16))
                      go_roundg k2
                      case measure => have := HJ1.out; have := HK2.out; omega
                      case rel => exact ⟨(wrap64 (x3_2 + 1)), (by first | rfl | (simp; done) | (simp [*]; done)), H', ⟨by have := HJ1.out; have := HK2.out; omega⟩, by repeat (first | exact Drawn0.refl _ | apply Drawn0.step)⟩
              · rw [if_neg c10] at H
                exact absurd H (by simp)
            · rw [if_neg c9] at H
              have c9b0 : decide (x3_2 < (a0.size : Int)) = false := decide_eq_false c9
              clear c9
              obtain rfl := Option.some.inj H
              go_wp2
              go_ret
              exact ⟨by first | rfl | (simp; done) | (simp [*]; done), by repeat (first | exact Drawn0.refl _ | apply Drawn0.step)⟩

/-! ### monticuleref06_Class: function 41 -/
def monticuleref06_Class.f (k : Nat) (a0 : ByteArray) : Option (Bool) := (monticuleref06_Is.f k a0).bind fun t144 => (if t144 = true then (if 0 < (a0.size : Int) then ((monticuleref06_small.f (bt a0 0)).bind fun t145 => (some (!t145))) else (none)) else (some false))
theorem monticuleref06_Class.mono : ∀ a0 k, LeO (monticuleref06_Class.f k a0) (monticuleref06_Class.f (k + 1) a0) := by
  intro a0 k
  unfold monticuleref06_Class.f
  repeat' first
      | (with_reducible exact monticuleref06_Is.mono _ _)
      | (with_reducible exact LeO.refl _)
      | (with_reducible exact LeO.none _)
      | (with_reducible refine LeO.ite ?_ ?_)
      | (with_reducible refine LeO.bind ?_ (fun _ => ?_))
      | exact monticuleref06_Is.mono _ _
      | exact LeO.none _
      | refine LeO.ite ?_ ?_
      | refine LeO.bind ?_ (fun _ => ?_)
set_option maxHeartbeats 8000000 in
set_option maxRecDepth 100000 in
theorem monticuleref06_Class.calls (k : Nat) (a0 : ByteArray) (r : Bool) (w : World) (h : monticuleref06_Class.f k a0 = some r) :
    Calls Tryd.prog 41 #[.string a0] w fun e w' => e = .returned (.bool r) ∧ Drawn0 w w' := by
  have H : ((monticuleref06_Is.f k a0).bind fun t144 => (if t144 = true then (if 0 < (a0.size : Int) then ((monticuleref06_small.f (bt a0 0)).bind fun t145 => (some (!t145))) else (none)) else (some false))) = some r := h
  clear h
  replace H := Option.bind_eq_some_iff.mp H
  obtain ⟨t144, A20, H⟩ := H
  replace H : (if t144 = true then (if 0 < (a0.size : Int) then ((monticuleref06_small.f (bt a0 0)).bind fun t145 => (some (!t145))) else (none)) else (some false)) = some r := H
  have A2 := Aside0.mk A20
  clear A20
  by_cases c3 : t144 = true
  · subst c3
    have H1 : (if 0 < (a0.size : Int) then ((monticuleref06_small.f (bt a0 0)).bind fun t145 => (some (!t145))) else (none)) = some r := by rw [if_pos rfl] at H; exact H
    clear H
    have H := H1
    clear H1
    by_cases c4 : 0 < (a0.size : Int)
    · rw [if_pos c4] at H
      have c4b0 : decide (0 < (a0.size : Int)) = true := decide_eq_true c4
      have c4b1 : decide (0 < a0.size) = true := decide_eq_true (by omega)
      clear c4
      replace H := Option.bind_eq_some_iff.mp H
      obtain ⟨t145, A60, H⟩ := H
      replace H : (some (!t145)) = some r := H
      have A6 := Aside0.mk A60
      clear A60
      obtain rfl := Option.some.inj H
      go_enter Tryd.func41, Tryd.ntmps41
      go_wp2_with (first | ((with_reducible refine gate_callee (f := 65) rfl ?_); refine goesL_ (some 4) rfl rfl Tryd.func65 (by kernel_rfl) rfl #[.string a0] rfl (by (try simp only [List.map_toArray, List.map_cons, List.map_nil]); first | done | rfl | (simp only [List.length_drop, List.length_take]; rfl)) ?_; (with_reducible refine (monticuleref06_Is.calls k a0 true _ A2.out).mono ?_); rintro e w' ⟨rfl, ⟨nd, rfl⟩⟩; refine ⟨_, rfl, ?_⟩; have p5 : 0 ≤ (0 : Int) := (by omega); have q5 : 0 < a0.size := (by have : (0 : Int) < (a0.size : Int) := of_decide_eq_true (by first | (with_reducible assumption) | assumption); omega); have hx5 : ∀ h : 0 < a0.size, ((a0[0]'h).toNat : Int) = bt a0 0 := bt_at a0 0; clear p5; have qi5 : (0 < (a0.size : Int)) = True := eq_true (of_decide_eq_true (by first | (with_reducible assumption) | assumption)); replace q5 := eq_true q5) | (go_at_call 66; (with_reducible refine (monticuleref06_small.calls (bt a0 0) t145 _ A6.out).mono ?_); rintro e w' ⟨rfl, ⟨nd, rfl⟩⟩))
      go_ret
      exact ⟨by first | rfl | (simp; done) | (simp [*]; done), by repeat (first | exact Drawn0.refl _ | apply Drawn0.step)⟩
    · rw [if_neg c4] at H
      exact absurd H (by simp)
  · replace c3 := Bool.eq_false_iff.mpr c3
    subst c3
    have H1 : (some false) = some r := by rw [if_neg (show ¬ (false = true) by decide)] at H; exact H
    clear H
    have H := H1
    clear H1
    obtain rfl := Option.some.inj H
    go_enter Tryd.func41, Tryd.ntmps41
    go_wp2_with (first | ((with_reducible refine gate_callee (f := 65) rfl ?_); refine goesL_ (some 4) rfl rfl Tryd.func65 (by kernel_rfl) rfl #[.string a0] rfl (by (try simp only [List.map_toArray, List.map_cons, List.map_nil]); first | done | rfl | (simp only [List.length_drop, List.length_take]; rfl)) ?_; (with_reducible refine (monticuleref06_Is.calls k a0 false _ A2.out).mono ?_); rintro e w' ⟨rfl, ⟨nd, rfl⟩⟩; refine ⟨_, rfl, ?_⟩))
    go_ret
    exact ⟨by first | rfl | (simp; done) | (simp [*]; done), by repeat (first | exact Drawn0.refl _ | apply Drawn0.step)⟩

/-! ### monticuleref06_In: function 43 -/
def monticuleref06_In.l0 : Nat → List ByteArray → ByteArray → Int → Option (Bool)
  | 0, _, _, _ => none
  | k + 1, x0, x1, x5 => if x5 < (x0.length : Int) then (if 0 ≤ x5 then (if (rdOf ByteArray.empty x0 x5).toList = x1.toList then (some true) else (monticuleref06_In.l0 k x0 x1 (wrap64 (x5 + 1)))) else (none)) else (some false)
def monticuleref06_In.f (k : Nat) (l0 : List ByteArray) (a1 : ByteArray) : Option (Bool) := monticuleref06_In.l0 k l0 a1 0
theorem monticuleref06_In.mono_l : ∀ k, (∀ y0 y1 y2, LeO (monticuleref06_In.l0 k y0 y1 y2) (monticuleref06_In.l0 (k + 1) y0 y1 y2))
  | 0 => fun _ _ _ r h => by simp [monticuleref06_In.l0] at h
  | k + 1 => by
    have ih0 := monticuleref06_In.mono_l k
    · intro y0 y1 y2
      unfold monticuleref06_In.l0
      repeat' first
      | (with_reducible exact ih0 _ _ _)
      | (with_reducible exact LeO.refl _)
      | (with_reducible exact LeO.none _)
      | (with_reducible refine LeO.ite ?_ ?_)
      | (with_reducible refine LeO.bind ?_ (fun _ => ?_))
      | exact ih0 _ _ _
      | exact LeO.none _
      | refine LeO.ite ?_ ?_
      | refine LeO.bind ?_ (fun _ => ?_)
theorem monticuleref06_In.mono : ∀ a0 a1 k, LeO (monticuleref06_In.f k a0 a1) (monticuleref06_In.f (k + 1) a0 a1) := by
  intro a0 a1 k
  have ih0 := monticuleref06_In.mono_l k
  unfold monticuleref06_In.f
  repeat' first
      | (with_reducible exact ih0 _ _ _)
      | (with_reducible exact LeO.refl _)
      | (with_reducible exact LeO.none _)
      | (with_reducible refine LeO.ite ?_ ?_)
      | (with_reducible refine LeO.bind ?_ (fun _ => ?_))
      | exact ih0 _ _ _
      | exact LeO.none _
      | refine LeO.ite ?_ ?_
      | refine LeO.bind ?_ (fun _ => ?_)
set_option maxHeartbeats 8000000 in
set_option maxRecDepth 100000 in
theorem monticuleref06_In.calls (k : Nat) (A0 : Option Addr) (c0 : Nat) (l0 : List ByteArray) (a1 : ByteArray) (r : Bool) (w : World) (hr0 : Kd.C Kd.string w A0 l0.length l0) (hc0 : l0.length ≤ c0) (h : monticuleref06_In.f k l0 a1 = some r) :
    Calls Tryd.prog 43 #[.slice A0 l0.length c0, .string a1] w fun e w' => e = .returned (.bool r) ∧ Drawn0 w w' := by
  have HR0 := Aside0.mk hr0
  have HC0 := Aside0.mk hc0
  clear hr0 hc0
  have H : (monticuleref06_In.l0 k l0 a1 0) = some r := h
  clear h
  have H' := Aside0.mk H
  clear H
  go_enter Tryd.func43, Tryd.ntmps43
  go_wp2
  go_loopg [5] k (fun kq v5 w' => ∃ (x5_1 : Int), v5 = .int .i64 x5_1 ∧ Aside0 (monticuleref06_In.l0 kq l0 a1 x5_1 = some r) ∧ Aside0 (kq ≤ k) ∧ Drawn0 w w')
  case atStart => exact ⟨(0), (by first | rfl | (simp; done) | (simp [*]; done)), H', ⟨Nat.le_refl _⟩, by repeat (first | exact Drawn0.refl _ | apply Drawn0.step)⟩
  case round =>
    clear H'
    try clear p2
    obtain ⟨x5_1, rfl, HA, HK1, ⟨m1, rfl⟩⟩ := hrel
    cases gk with
    | zero => exact absurd HA.out (by simp [monticuleref06_In.l0])
    | succ k1 =>
      have H := HA.out
      clear HA
      simp only [monticuleref06_In.l0] at H
      by_cases c3 : x5_1 < (l0.length : Int)
      · rw [if_pos c3] at H
        have c3b0 : decide (x5_1 < (l0.length : Int)) = true := decide_eq_true c3
        clear c3
        by_cases c4 : 0 ≤ x5_1
        · rw [if_pos c4] at H
          have c4b0 : decide (0 ≤ x5_1) = true := decide_eq_true c4
          clear c4
          by_cases c5 : (rdOf ByteArray.empty l0 x5_1).toList = a1.toList
          · rw [if_pos c5] at H
            have c5b0 : ((rdOf ByteArray.empty l0 x5_1).toList == a1.toList) = true := beq_iff_eq.mpr c5
            have c5b1 : ((rdOf ByteArray.empty l0 x5_1).toList != a1.toList) = false := bne_eq_false_iff_eq.mpr c5
            clear c5
            obtain rfl := Option.some.inj H
            have p146 : 0 ≤ (x5_1 : Int) := of_decide_eq_true (by first | (with_reducible assumption) | assumption)
            have q146 : x5_1 < (l0.length : Int) := of_decide_eq_true (by first | (with_reducible assumption) | assumption)
            obtain ⟨ad146, e146, hx146_0⟩ := Kd.at_string HR0.out x5_1 p146 q146
            cases e146
            replace p146 := eq_true p146
            replace q146 := eq_true q146
            go_wp2
            go_ret
            exact ⟨by first | rfl | (simp; done) | (simp [*]; done), by repeat (first | exact Drawn0.refl _ | apply Drawn0.step)⟩
          · rw [if_neg c5] at H
            have c5b0 : ((rdOf ByteArray.empty l0 x5_1).toList == a1.toList) = false := beq_eq_false_iff_ne.mpr c5
            have c5b1 : ((rdOf ByteArray.empty l0 x5_1).toList != a1.toList) = true := bne_iff_ne.mpr c5
            have H' := Aside0.mk H
            clear H
            have p146 : 0 ≤ (x5_1 : Int) := of_decide_eq_true (by first | (with_reducible assumption) | assumption)
            have q146 : x5_1 < (l0.length : Int) := of_decide_eq_true (by first | (with_reducible assumption) | assumption)
            obtain ⟨ad146, e146, hx146_0⟩ := Kd.at_string HR0.out x5_1 p146 q146
            cases e146
            replace p146 := eq_true p146
            replace q146 := eq_true q146
            go_wp2
            go_roundg k1
            case measure => have := HK1.out; omega
            case rel => exact ⟨(wrap64 (x5_1 + 1)), (by first | rfl | (simp; done) | (simp [*]; done)), H', ⟨by have := HK1.out; omega⟩, by repeat (first | exact Drawn0.refl _ | apply Drawn0.step)⟩
        · rw [if_neg c4] at H
          exact absurd H (by simp)
      · rw [if_neg c3] at H
        have c3b0 : decide (x5_1 < (l0.length : Int)) = false := decide_eq_false c3
        clear c3
        obtain rfl := Option.some.inj H
        go_wp2
        go_ret
        exact ⟨by first | rfl | (simp; done) | (simp [*]; done), by repeat (first | exact Drawn0.refl _ | apply Drawn0.step)⟩

/-! ### monticuleref06_Var: function 42 -/
def monticuleref06_Var.f (k : Nat) (a0 : ByteArray) : Option (Bool) := (monticuleref06_Is.f k a0).bind fun t147 => (if t147 = true then (if 0 < (a0.size : Int) then ((monticuleref06_small.f (bt a0 0)).bind fun t148 => (if t148 = true then ((monticuleref06_In.f k (([(⟨#[115, 101, 108, 102]⟩ : ByteArray), (⟨#[115, 117, 112, 101, 114]⟩ : ByteArray), (⟨#[110, 105, 108]⟩ : ByteArray), (⟨#[116, 114, 117, 101]⟩ : ByteArray), (⟨#[102, 97, 108, 115, 101]⟩ : ByteArray)] : List ByteArray)) a0).bind fun t152 => (some (!t152))) else (some false))) else (none)) else (some false))
theorem monticuleref06_Var.mono : ∀ a0 k, LeO (monticuleref06_Var.f k a0) (monticuleref06_Var.f (k + 1) a0) := by
  intro a0 k
  unfold monticuleref06_Var.f
  repeat' first
      | (with_reducible exact monticuleref06_In.mono _ _ _)
      | (with_reducible exact monticuleref06_Is.mono _ _)
      | (with_reducible exact LeO.refl _)
      | (with_reducible exact LeO.none _)
      | (with_reducible refine LeO.ite ?_ ?_)
      | (with_reducible refine LeO.bind ?_ (fun _ => ?_))
      | exact monticuleref06_In.mono _ _ _
      | exact monticuleref06_Is.mono _ _
      | exact LeO.none _
      | refine LeO.ite ?_ ?_
      | refine LeO.bind ?_ (fun _ => ?_)
set_option maxHeartbeats 8000000 in
set_option maxRecDepth 100000 in
theorem monticuleref06_Var.calls (k : Nat) (a0 : ByteArray) (r : Bool) (w : World) (h : monticuleref06_Var.f k a0 = some r) :
    Calls Tryd.prog 42 #[.string a0] w fun e w' => e = .returned (.bool r) ∧ Below w.heap.size w w' := by
  have HB := Aside0.mk (Below.refl w.heap.size w)
  have H : ((monticuleref06_Is.f k a0).bind fun t147 => (if t147 = true then (if 0 < (a0.size : Int) then ((monticuleref06_small.f (bt a0 0)).bind fun t148 => (if t148 = true then ((monticuleref06_In.f k (([(⟨#[115, 101, 108, 102]⟩ : ByteArray), (⟨#[115, 117, 112, 101, 114]⟩ : ByteArray), (⟨#[110, 105, 108]⟩ : ByteArray), (⟨#[116, 114, 117, 101]⟩ : ByteArray), (⟨#[102, 97, 108, 115, 101]⟩ : ByteArray)] : List ByteArray)) a0).bind fun t152 => (some (!t152))) else (some false))) else (none)) else (some false))) = some r := h
  clear h
  replace H := Option.bind_eq_some_iff.mp H
  obtain ⟨t147, A20, H⟩ := H
  replace H : (if t147 = true then (if 0 < (a0.size : Int) then ((monticuleref06_small.f (bt a0 0)).bind fun t148 => (if t148 = true then ((monticuleref06_In.f k (([(⟨#[115, 101, 108, 102]⟩ : ByteArray), (⟨#[115, 117, 112, 101, 114]⟩ : ByteArray), (⟨#[110, 105, 108]⟩ : ByteArray), (⟨#[116, 114, 117, 101]⟩ : ByteArray), (⟨#[102, 97, 108, 115, 101]⟩ : ByteArray)] : List ByteArray)) a0).bind fun t152 => (some (!t152))) else (some false))) else (none)) else (some false)) = some r := H
  have A2 := Aside0.mk A20
  clear A20
  by_cases c3 : t147 = true
  · subst c3
    have H1 : (if 0 < (a0.size : Int) then ((monticuleref06_small.f (bt a0 0)).bind fun t148 => (if t148 = true then ((monticuleref06_In.f k (([(⟨#[115, 101, 108, 102]⟩ : ByteArray), (⟨#[115, 117, 112, 101, 114]⟩ : ByteArray), (⟨#[110, 105, 108]⟩ : ByteArray), (⟨#[116, 114, 117, 101]⟩ : ByteArray), (⟨#[102, 97, 108, 115, 101]⟩ : ByteArray)] : List ByteArray)) a0).bind fun t152 => (some (!t152))) else (some false))) else (none)) = some r := by rw [if_pos rfl] at H; exact H
    clear H
    have H := H1
    clear H1
    by_cases c4 : 0 < (a0.size : Int)
    · rw [if_pos c4] at H
      have c4b0 : decide (0 < (a0.size : Int)) = true := decide_eq_true c4
      have c4b1 : decide (0 < a0.size) = true := decide_eq_true (by omega)
      clear c4
      replace H := Option.bind_eq_some_iff.mp H
      obtain ⟨t148, A60, H⟩ := H
      replace H : (if t148 = true then ((monticuleref06_In.f k (([(⟨#[115, 101, 108, 102]⟩ : ByteArray), (⟨#[115, 117, 112, 101, 114]⟩ : ByteArray), (⟨#[110, 105, 108]⟩ : ByteArray), (⟨#[116, 114, 117, 101]⟩ : ByteArray), (⟨#[102, 97, 108, 115, 101]⟩ : ByteArray)] : List ByteArray)) a0).bind fun t152 => (some (!t152))) else (some false)) = some r := H
      have A6 := Aside0.mk A60
      clear A60
      by_cases c7 : t148 = true
      · subst c7
        have H1 : ((monticuleref06_In.f k (([(⟨#[115, 101, 108, 102]⟩ : ByteArray), (⟨#[115, 117, 112, 101, 114]⟩ : ByteArray), (⟨#[110, 105, 108]⟩ : ByteArray), (⟨#[116, 114, 117, 101]⟩ : ByteArray), (⟨#[102, 97, 108, 115, 101]⟩ : ByteArray)] : List ByteArray)) a0).bind fun t152 => (some (!t152))) = some r := by rw [if_pos rfl] at H; exact H
        clear H
        have H := H1
        clear H1
        obtain ⟨y149, hy149⟩ : ∃ y_ : List ByteArray, y_ = (([(⟨#[115, 101, 108, 102]⟩ : ByteArray), (⟨#[115, 117, 112, 101, 114]⟩ : ByteArray), (⟨#[110, 105, 108]⟩ : ByteArray), (⟨#[116, 114, 117, 101]⟩ : ByteArray), (⟨#[102, 97, 108, 115, 101]⟩ : ByteArray)] : List ByteArray)) := ⟨_, rfl⟩
        replace H : ((monticuleref06_In.f k y149 a0).bind fun t152 => (some (!t152))) = some r := by first | (rw [hy149]; with_reducible exact H) | (have H2_ := (Option.bind_some _ _).symm.trans H; rw [hy149]; with_reducible exact H2_) | (have H2_ := (Option.bind_some _ _).symm.trans H; with_reducible exact H2_) | with_reducible exact H | (rw [hy149]; exact H) | exact H
        have Ny149 := Aside0.mk hy149
        clear hy149
        replace H := Option.bind_eq_some_iff.mp H
        obtain ⟨t152, A80, H⟩ := H
        replace H : (some (!t152)) = some r := H
        have A8 := Aside0.mk A80
        clear A80
        obtain rfl := Option.some.inj H
        go_enter Tryd.func42, Tryd.ntmps42
        go_wp2_with (first | ((with_reducible refine gate_callee (f := 65) rfl ?_); refine goesL_ (some 4) rfl rfl Tryd.func65 (by kernel_rfl) rfl #[.string a0] rfl (by (try simp only [List.map_toArray, List.map_cons, List.map_nil]); first | done | rfl | (simp only [List.length_drop, List.length_take]; rfl)) ?_; (with_reducible refine (monticuleref06_Is.calls k a0 true _ A2.out).mono ?_); rintro e w' ⟨rfl, ⟨nd, rfl⟩⟩; refine ⟨_, rfl, ?_⟩; have p5 : 0 ≤ (0 : Int) := (by omega); have q5 : 0 < a0.size := (by have : (0 : Int) < (a0.size : Int) := of_decide_eq_true (by first | (with_reducible assumption) | assumption); omega); have hx5 : ∀ h : 0 < a0.size, ((a0[0]'h).toNat : Int) = bt a0 0 := bt_at a0 0; clear p5; have qi5 : (0 < (a0.size : Int)) = True := eq_true (of_decide_eq_true (by first | (with_reducible assumption) | assumption)); replace q5 := eq_true q5) | (go_at_call 66; (with_reducible refine (monticuleref06_small.calls (bt a0 0) true _ A6.out).mono ?_); rintro e w' ⟨rfl, ⟨nd, rfl⟩⟩) | ((with_reducible refine gate_dst (N := 11) rfl ?_); (try (refine gate_guard (by rfl) ?_; dsimp only)); refine Kd.R_lit Kd.string _ 9 ?hg (N := 11) ?hd (xs := ([(⟨#[115, 101, 108, 102]⟩ : ByteArray), (⟨#[115, 117, 112, 101, 114]⟩ : ByteArray), (⟨#[110, 105, 108]⟩ : ByteArray), (⟨#[116, 114, 117, 101]⟩ : ByteArray), (⟨#[102, 97, 108, 115, 101]⟩ : ByteArray)] : List ByteArray)) (inner := [.string (⟨#[115, 101, 108, 102]⟩ : ByteArray), .string (⟨#[115, 117, 112, 101, 114]⟩ : ByteArray), .string (⟨#[110, 105, 108]⟩ : ByteArray), .string (⟨#[116, 114, 117, 101]⟩ : ByteArray), .string (⟨#[102, 97, 108, 115, 101]⟩ : ByteArray)]) (ok := fun _ => True) (okp := fun _ => True) ?hr ?hp (fun _ hk => hk) trivial (Below.refl _ _) (Nat.le_refl _) (by simp) ?_; (case hd => rfl); (case hg => rfl); (case hr => first | (go_simp; done) | (go_simp; rfl)); (case hp => exact (Reps.one (show Kd.M Kd.string _ _ _ (⟨#[115, 101, 108, 102]⟩ : ByteArray) [.string (⟨#[115, 101, 108, 102]⟩ : ByteArray)] from rfl) (Reps.one (show Kd.M Kd.string _ _ _ (⟨#[115, 117, 112, 101, 114]⟩ : ByteArray) [.string (⟨#[115, 117, 112, 101, 114]⟩ : ByteArray)] from rfl) (Reps.one (show Kd.M Kd.string _ _ _ (⟨#[110, 105, 108]⟩ : ByteArray) [.string (⟨#[110, 105, 108]⟩ : ByteArray)] from rfl) (Reps.one (show Kd.M Kd.string _ _ _ (⟨#[116, 114, 117, 101]⟩ : ByteArray) [.string (⟨#[116, 114, 117, 101]⟩ : ByteArray)] from rfl) (Reps.one (show Kd.M Kd.string _ _ _ (⟨#[102, 97, 108, 115, 101]⟩ : ByteArray) [.string (⟨#[102, 97, 108, 115, 101]⟩ : ByteArray)] from rfl) (Reps.none _ _))))))); intro v150 w9 ho10 hb hg_ hnew_; clear hg_ hnew_; (first | rw [← Ny149.out] at ho10 | (simp only [Int.reduceToNat] at ho10; rw [← Ny149.out] at ho10)); have n0_ := Aside0.mk (Kd.R_lower ho10 (below_size (by repeat (first | (with_reducible first | exact HB.out | apply below_alloc | apply pw_below_drewN | apply below_drew1) | exact HB.out)))); have n1_ := Aside0.mk (below_step (by repeat (first | (with_reducible first | exact HB.out | apply below_alloc | apply pw_below_drewN | apply below_drew1) | exact HB.out)) hb); clear HB; have HO151 := n0_; have HB := n1_; clear n0_ n1_; clear hb ho10; obtain ⟨Ao11, co11, eo11⟩ := Kd.R_slice HO151.out; subst eo11) | (go_at_call 43; (with_reducible refine (monticuleref06_In.calls k _ _ y149 a0 t152 _ ?side1 ?side2 A8.out).mono ?_); (case side1 => repeat (first | exact (Kd.R_reads' HO151.out).2.2 | (with_reducible refine Kd.C_alloc ?_ _) | (with_reducible refine Kd.C_drewN ?_ _) | (with_reducible refine Kd.C_drew ?_))); (case side2 => exact (Kd.R_reads' HO151.out).2.1); rintro e w' ⟨rfl, ⟨nd, rfl⟩⟩))
        go_ret
        exact ⟨by first | rfl | (simp [errW_none, errW_some] <;> rfl) | (simp [*, errW_none, errW_some] <;> rfl), by repeat (first | (with_reducible first | exact HB.out | apply below_alloc | apply pw_below_drewN | apply below_drew1) | exact HB.out)⟩
      · replace c7 := Bool.eq_false_iff.mpr c7
        subst c7
        have H1 : (some false) = some r := by rw [if_neg (show ¬ (false = true) by decide)] at H; exact H
        clear H
        have H := H1
        clear H1
        obtain rfl := Option.some.inj H
        go_enter Tryd.func42, Tryd.ntmps42
        go_wp2_with (first | ((with_reducible refine gate_callee (f := 65) rfl ?_); refine goesL_ (some 4) rfl rfl Tryd.func65 (by kernel_rfl) rfl #[.string a0] rfl (by (try simp only [List.map_toArray, List.map_cons, List.map_nil]); first | done | rfl | (simp only [List.length_drop, List.length_take]; rfl)) ?_; (with_reducible refine (monticuleref06_Is.calls k a0 true _ A2.out).mono ?_); rintro e w' ⟨rfl, ⟨nd, rfl⟩⟩; refine ⟨_, rfl, ?_⟩; have p5 : 0 ≤ (0 : Int) := (by omega); have q5 : 0 < a0.size := (by have : (0 : Int) < (a0.size : Int) := of_decide_eq_true (by first | (with_reducible assumption) | assumption); omega); have hx5 : ∀ h : 0 < a0.size, ((a0[0]'h).toNat : Int) = bt a0 0 := bt_at a0 0; clear p5; have qi5 : (0 < (a0.size : Int)) = True := eq_true (of_decide_eq_true (by first | (with_reducible assumption) | assumption)); replace q5 := eq_true q5) | (go_at_call 66; (with_reducible refine (monticuleref06_small.calls (bt a0 0) false _ A6.out).mono ?_); rintro e w' ⟨rfl, ⟨nd, rfl⟩⟩))
        go_ret
        exact ⟨by first | rfl | (simp [errW_none, errW_some] <;> rfl) | (simp [*, errW_none, errW_some] <;> rfl), by repeat (first | (with_reducible first | exact HB.out | apply below_alloc | apply pw_below_drewN | apply below_drew1) | exact HB.out)⟩
    · rw [if_neg c4] at H
      exact absurd H (by simp)
  · replace c3 := Bool.eq_false_iff.mpr c3
    subst c3
    have H1 : (some false) = some r := by rw [if_neg (show ¬ (false = true) by decide)] at H; exact H
    clear H
    have H := H1
    clear H1
    obtain rfl := Option.some.inj H
    go_enter Tryd.func42, Tryd.ntmps42
    go_wp2_with (first | ((with_reducible refine gate_callee (f := 65) rfl ?_); refine goesL_ (some 4) rfl rfl Tryd.func65 (by kernel_rfl) rfl #[.string a0] rfl (by (try simp only [List.map_toArray, List.map_cons, List.map_nil]); first | done | rfl | (simp only [List.length_drop, List.length_take]; rfl)) ?_; (with_reducible refine (monticuleref06_Is.calls k a0 false _ A2.out).mono ?_); rintro e w' ⟨rfl, ⟨nd, rfl⟩⟩; refine ⟨_, rfl, ?_⟩))
    go_ret
    exact ⟨by first | rfl | (simp [errW_none, errW_some] <;> rfl) | (simp [*, errW_none, errW_some] <;> rfl), by repeat (first | (with_reducible first | exact HB.out | apply below_alloc | apply pw_below_drewN | apply below_drew1) | exact HB.out)⟩

/-! ### monticuleref06_Always: function 44 -/
def monticuleref06_Always.f (k : Nat) (a0 : ByteArray) : Option (Bool) := (monticuleref06_In.f k (([(⟨#[79, 98, 106, 101, 99, 116]⟩ : ByteArray), (⟨#[78, 105, 108]⟩ : ByteArray), (⟨#[66, 111, 111, 108, 101, 97, 110]⟩ : ByteArray), (⟨#[73, 110, 116, 101, 103, 101, 114]⟩ : ByteArray), (⟨#[83, 116, 114, 105, 110, 103]⟩ : ByteArray), (⟨#[83, 121, 109, 98, 111, 108]⟩ : ByteArray), (⟨#[65, 114, 114, 97, 121]⟩ : ByteArray), (⟨#[66, 108, 111, 99, 107]⟩ : ByteArray), (⟨#[67, 108, 97, 115, 115]⟩ : ByteArray), (⟨#[83, 121, 115, 116, 101, 109]⟩ : ByteArray)] : List ByteArray)) a0).bind fun t156 => (some t156)
theorem monticuleref06_Always.mono : ∀ a0 k, LeO (monticuleref06_Always.f k a0) (monticuleref06_Always.f (k + 1) a0) := by
  intro a0 k
  unfold monticuleref06_Always.f
  repeat' first
      | (with_reducible exact monticuleref06_In.mono _ _ _)
      | (with_reducible exact LeO.refl _)
      | (with_reducible exact LeO.none _)
      | (with_reducible refine LeO.ite ?_ ?_)
      | (with_reducible refine LeO.bind ?_ (fun _ => ?_))
      | exact monticuleref06_In.mono _ _ _
      | exact LeO.none _
      | refine LeO.ite ?_ ?_
      | refine LeO.bind ?_ (fun _ => ?_)
set_option maxHeartbeats 8000000 in
set_option maxRecDepth 100000 in
theorem monticuleref06_Always.calls (k : Nat) (a0 : ByteArray) (r : Bool) (w : World) (h : monticuleref06_Always.f k a0 = some r) :
    Calls Tryd.prog 44 #[.string a0] w fun e w' => e = .returned (.bool r) ∧ Below w.heap.size w w' := by
  have HB := Aside0.mk (Below.refl w.heap.size w)
  have H : ((monticuleref06_In.f k (([(⟨#[79, 98, 106, 101, 99, 116]⟩ : ByteArray), (⟨#[78, 105, 108]⟩ : ByteArray), (⟨#[66, 111, 111, 108, 101, 97, 110]⟩ : ByteArray), (⟨#[73, 110, 116, 101, 103, 101, 114]⟩ : ByteArray), (⟨#[83, 116, 114, 105, 110, 103]⟩ : ByteArray), (⟨#[83, 121, 109, 98, 111, 108]⟩ : ByteArray), (⟨#[65, 114, 114, 97, 121]⟩ : ByteArray), (⟨#[66, 108, 111, 99, 107]⟩ : ByteArray), (⟨#[67, 108, 97, 115, 115]⟩ : ByteArray), (⟨#[83, 121, 115, 116, 101, 109]⟩ : ByteArray)] : List ByteArray)) a0).bind fun t156 => (some t156)) = some r := h
  clear h
  obtain ⟨y153, hy153⟩ : ∃ y_ : List ByteArray, y_ = (([(⟨#[79, 98, 106, 101, 99, 116]⟩ : ByteArray), (⟨#[78, 105, 108]⟩ : ByteArray), (⟨#[66, 111, 111, 108, 101, 97, 110]⟩ : ByteArray), (⟨#[73, 110, 116, 101, 103, 101, 114]⟩ : ByteArray), (⟨#[83, 116, 114, 105, 110, 103]⟩ : ByteArray), (⟨#[83, 121, 109, 98, 111, 108]⟩ : ByteArray), (⟨#[65, 114, 114, 97, 121]⟩ : ByteArray), (⟨#[66, 108, 111, 99, 107]⟩ : ByteArray), (⟨#[67, 108, 97, 115, 115]⟩ : ByteArray), (⟨#[83, 121, 115, 116, 101, 109]⟩ : ByteArray)] : List ByteArray)) := ⟨_, rfl⟩
  replace H : ((monticuleref06_In.f k y153 a0).bind fun t156 => (some t156)) = some r := by first | (rw [hy153]; with_reducible exact H) | (have H2_ := (Option.bind_some _ _).symm.trans H; rw [hy153]; with_reducible exact H2_) | (have H2_ := (Option.bind_some _ _).symm.trans H; with_reducible exact H2_) | with_reducible exact H | (rw [hy153]; exact H) | exact H
  have Ny153 := Aside0.mk hy153
  clear hy153
  replace H := Option.bind_eq_some_iff.mp H
  obtain ⟨t156, A20, H⟩ := H
  replace H : (some t156) = some r := H
  have A2 := Aside0.mk A20
  clear A20
  obtain rfl := Option.some.inj H
  go_enter Tryd.func44, Tryd.ntmps44
  go_wp2_with (first | ((with_reducible refine gate_dst (N := 3) rfl ?_); refine Kd.R_lit Kd.string _ 9 ?hg (N := 3) ?hd (xs := ([(⟨#[79, 98, 106, 101, 99, 116]⟩ : ByteArray), (⟨#[78, 105, 108]⟩ : ByteArray), (⟨#[66, 111, 111, 108, 101, 97, 110]⟩ : ByteArray), (⟨#[73, 110, 116, 101, 103, 101, 114]⟩ : ByteArray), (⟨#[83, 116, 114, 105, 110, 103]⟩ : ByteArray), (⟨#[83, 121, 109, 98, 111, 108]⟩ : ByteArray), (⟨#[65, 114, 114, 97, 121]⟩ : ByteArray), (⟨#[66, 108, 111, 99, 107]⟩ : ByteArray), (⟨#[67, 108, 97, 115, 115]⟩ : ByteArray), (⟨#[83, 121, 115, 116, 101, 109]⟩ : ByteArray)] : List ByteArray)) (inner := [.string (⟨#[79, 98, 106, 101, 99, 116]⟩ : ByteArray), .string (⟨#[78, 105, 108]⟩ : ByteArray), .string (⟨#[66, 111, 111, 108, 101, 97, 110]⟩ : ByteArray), .string (⟨#[73, 110, 116, 101, 103, 101, 114]⟩ : ByteArray), .string (⟨#[83, 116, 114, 105, 110, 103]⟩ : ByteArray), .string (⟨#[83, 121, 109, 98, 111, 108]⟩ : ByteArray), .string (⟨#[65, 114, 114, 97, 121]⟩ : ByteArray), .string (⟨#[66, 108, 111, 99, 107]⟩ : ByteArray), .string (⟨#[67, 108, 97, 115, 115]⟩ : ByteArray), .string (⟨#[83, 121, 115, 116, 101, 109]⟩ : ByteArray)]) (ok := fun _ => True) (okp := fun _ => True) ?hr ?hp (fun _ hk => hk) trivial (Below.refl _ _) (Nat.le_refl _) (by simp) ?_; (case hd => rfl); (case hg => rfl); (case hr => first | (go_simp; done) | (go_simp; rfl)); (case hp => exact (Reps.one (show Kd.M Kd.string _ _ _ (⟨#[79, 98, 106, 101, 99, 116]⟩ : ByteArray) [.string (⟨#[79, 98, 106, 101, 99, 116]⟩ : ByteArray)] from rfl) (Reps.one (show Kd.M Kd.string _ _ _ (⟨#[78, 105, 108]⟩ : ByteArray) [.string (⟨#[78, 105, 108]⟩ : ByteArray)] from rfl) (Reps.one (show Kd.M Kd.string _ _ _ (⟨#[66, 111, 111, 108, 101, 97, 110]⟩ : ByteArray) [.string (⟨#[66, 111, 111, 108, 101, 97, 110]⟩ : ByteArray)] from rfl) (Reps.one (show Kd.M Kd.string _ _ _ (⟨#[73, 110, 116, 101, 103, 101, 114]⟩ : ByteArray) [.string (⟨#[73, 110, 116, 101, 103, 101, 114]⟩ : ByteArray)] from rfl) (Reps.one (show Kd.M Kd.string _ _ _ (⟨#[83, 116, 114, 105, 110, 103]⟩ : ByteArray) [.string (⟨#[83, 116, 114, 105, 110, 103]⟩ : ByteArray)] from rfl) (Reps.one (show Kd.M Kd.string _ _ _ (⟨#[83, 121, 109, 98, 111, 108]⟩ : ByteArray) [.string (⟨#[83, 121, 109, 98, 111, 108]⟩ : ByteArray)] from rfl) (Reps.one (show Kd.M Kd.string _ _ _ (⟨#[65, 114, 114, 97, 121]⟩ : ByteArray) [.string (⟨#[65, 114, 114, 97, 121]⟩ : ByteArray)] from rfl) (Reps.one (show Kd.M Kd.string _ _ _ (⟨#[66, 108, 111, 99, 107]⟩ : ByteArray) [.string (⟨#[66, 108, 111, 99, 107]⟩ : ByteArray)] from rfl) (Reps.one (show Kd.M Kd.string _ _ _ (⟨#[67, 108, 97, 115, 115]⟩ : ByteArray) [.string (⟨#[67, 108, 97, 115, 115]⟩ : ByteArray)] from rfl) (Reps.one (show Kd.M Kd.string _ _ _ (⟨#[83, 121, 115, 116, 101, 109]⟩ : ByteArray) [.string (⟨#[83, 121, 115, 116, 101, 109]⟩ : ByteArray)] from rfl) (Reps.none _ _)))))))))))); intro v154 w3 ho4 hb hg_ hnew_; clear hg_ hnew_; (first | rw [← Ny153.out] at ho4 | (simp only [Int.reduceToNat] at ho4; rw [← Ny153.out] at ho4)); have n0_ := Aside0.mk (Kd.R_lower ho4 (below_size (by repeat (first | (with_reducible first | exact HB.out | apply below_alloc | apply pw_below_drewN | apply below_drew1) | exact HB.out)))); have n1_ := Aside0.mk (below_step (by repeat (first | (with_reducible first | exact HB.out | apply below_alloc | apply pw_below_drewN | apply below_drew1) | exact HB.out)) hb); clear HB; have HO155 := n0_; have HB := n1_; clear n0_ n1_; clear hb ho4; obtain ⟨Ao5, co5, eo5⟩ := Kd.R_slice HO155.out; subst eo5) | ((with_reducible refine gate_callee (f := 43) rfl ?_); refine goesL_ (some 5) rfl rfl Tryd.func43 (by kernel_rfl) rfl #[.slice Ao5 y153.length co5, .string a0] rfl (by (try simp only [List.map_toArray, List.map_cons, List.map_nil]); first | done | rfl | (simp only [List.length_drop, List.length_take]; rfl)) ?_; (with_reducible refine (monticuleref06_In.calls k _ _ y153 a0 t156 _ ?side1 ?side2 A2.out).mono ?_); (case side1 => repeat (first | exact (Kd.R_reads' HO155.out).2.2 | (with_reducible refine Kd.C_alloc ?_ _) | (with_reducible refine Kd.C_drewN ?_ _) | (with_reducible refine Kd.C_drew ?_))); (case side2 => exact (Kd.R_reads' HO155.out).2.1); rintro e w' ⟨rfl, ⟨nd, rfl⟩⟩; refine ⟨_, rfl, ?_⟩))
  go_ret
  exact ⟨by first | rfl | (simp [errW_none, errW_some] <;> rfl) | (simp [*, errW_none, errW_some] <;> rfl), by repeat (first | (with_reducible first | exact HB.out | apply below_alloc | apply pw_below_drewN | apply below_drew1) | exact HB.out)⟩

end Go.Proofs.YtoiaancehakiiaaDoor.Q
