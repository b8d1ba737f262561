-- Printed for this claim by a program of the session's own over the kit's printer; Lean checks it.
import Derived.Test.YtllgcnckaodjkaaDoorQ0
import Derived.Test.YtllgcnckaodjkaaDoorQ1
import Derived.Test.YtllgcnckaodjkaaDoorQ3
namespace Go.Proofs.YtllgcnckaodjkaaDoor.Q
open Go.RowKit Go.Proofs.YtllgcnckaodjkaaDoorW.PrintWords Go.Proofs.YtllgcnckaodjkaaDoorW.PrintLast Go.Proofs.YtllgcnckaodjkaaDoorW.PrintMore
attribute [local go_sem] max2_int min2_int max_two min_two max_three min_three max_four min_four   -- for this text's walks alone
set_option linter.unusedVariables false
set_option linter.unusedSimpArgs false

/-! ### monticuleref06_Is: function 25 -/
mutual
def monticuleref06_Is.j0 : Nat → ByteArray → Bool → Option (Bool)
  | 0, _, _ => none
  | k + 1, x0, x17 => if x17 = true then (some false) else (monticuleref06_Is.l0 k x0 0)
def monticuleref06_Is.l0 : Nat → ByteArray → Int → Option (Bool)
  | 0, _, _ => none
  | k + 1, x0, x3 => if x3 < (x0.size : Int) then (if 0 ≤ x3 then ((monticuleref06_letter.f (bt x0 x3)).bind fun t165 => (if t165 = true then (monticuleref06_Is.l0 k x0 (wrap64 (x3 + 1))) else (if (bt x0 x3) < 48 then (some false) else (if (bt x0 x3) > 57 then (some false) else (monticuleref06_Is.l0 k x0 (wrap64 (x3 + 1))))))) else (none)) else (some true)
end
def monticuleref06_Is.f (k : Nat) (a0 : ByteArray) : Option (Bool) := if (a0.size : Int) < 1 then (monticuleref06_Is.j0 k a0 true) else (if (a0.size : Int) > 40 then (monticuleref06_Is.j0 k a0 true) else (if 0 < (a0.size : Int) then ((monticuleref06_letter.f (bt a0 0)).bind fun t164 => (monticuleref06_Is.j0 k a0 (!t164))) else (none)))
theorem monticuleref06_Is.mono_l : ∀ k, (∀ y0 y1, LeO (monticuleref06_Is.j0 k y0 y1) (monticuleref06_Is.j0 (k + 1) y0 y1)) ∧ (∀ y0 y1, LeO (monticuleref06_Is.l0 k y0 y1) (monticuleref06_Is.l0 (k + 1) y0 y1))
  | 0 => ⟨fun _ _ r h => by simp [monticuleref06_Is.j0] at h, fun _ _ r h => by simp [monticuleref06_Is.l0] at h⟩
  | k + 1 => by
    obtain ⟨ih0, ih1⟩ := monticuleref06_Is.mono_l k
    refine ⟨?_, ?_⟩
    · intro y0 y1
      unfold monticuleref06_Is.j0
      repeat' first
      | (with_reducible exact ih0 _ _)
      | (with_reducible exact ih1 _ _)
      | (with_reducible exact LeO.refl _)
      | (with_reducible exact LeO.none _)
      | (with_reducible refine LeO.ite ?_ ?_)
      | (with_reducible refine LeO.bind ?_ (fun _ => ?_))
      | exact ih0 _ _
      | exact ih1 _ _
      | exact LeO.none _
      | refine LeO.ite ?_ ?_
      | refine LeO.bind ?_ (fun _ => ?_)
    · intro y0 y1
      unfold monticuleref06_Is.l0
      repeat' first
      | (with_reducible exact ih0 _ _)
      | (with_reducible exact ih1 _ _)
      | (with_reducible exact LeO.refl _)
      | (with_reducible exact LeO.none _)
      | (with_reducible refine LeO.ite ?_ ?_)
      | (with_reducible refine LeO.bind ?_ (fun _ => ?_))
      | exact ih0 _ _
      | exact ih1 _ _
      | exact LeO.none _
      | refine LeO.ite ?_ ?_
      | refine LeO.bind ?_ (fun _ => ?_)
theorem monticuleref06_Is.mono : ∀ a0 k, LeO (monticuleref06_Is.f k a0) (monticuleref06_Is.f (k + 1) a0) := by
  intro a0 k
  obtain ⟨ih0, ih1⟩ := monticuleref06_Is.mono_l k
  unfold monticuleref06_Is.f
  repeat' first
      | (with_reducible exact ih0 _ _)
      | (with_reducible exact ih1 _ _)
      | (with_reducible exact LeO.refl _)
      | (with_reducible exact LeO.none _)
      | (with_reducible refine LeO.ite ?_ ?_)
      | (with_reducible refine LeO.bind ?_ (fun _ => ?_))
      | exact ih0 _ _
      | exact ih1 _ _
      | exact LeO.none _
      | refine LeO.ite ?_ ?_
      | refine LeO.bind ?_ (fun _ => ?_)
set_option maxHeartbeats 8000000 in
set_option maxRecDepth 100000 in
theorem monticuleref06_Is.calls (k : Nat) (a0 : ByteArray) (r : Bool) (w : World) (h : monticuleref06_Is.f k a0 = some r) :
    Calls Tryd.prog 25 #[.string a0] w fun e w' => e = .returned (.bool r) ∧ Drawn0 w w' := by
  have H : (if (a0.size : Int) < 1 then (monticuleref06_Is.j0 k a0 true) else (if (a0.size : Int) > 40 then (monticuleref06_Is.j0 k a0 true) else (if 0 < (a0.size : Int) then ((monticuleref06_letter.f (bt a0 0)).bind fun t164 => (monticuleref06_Is.j0 k a0 (!t164))) else (none)))) = some r := h
  clear h
  have HC2 := Aside0.mk H
  clear H
  go_enter Tryd.func25, Tryd.ntmps25
  go_upto_region 1 with (fail)
  go_cut [17] (fun v17 wc => ∃ (kq : Nat) (x17_1 : Bool), v17 = .bool x17_1 ∧ Aside0 (monticuleref06_Is.j0 kq a0 x17_1 = some r) ∧ Aside0 (kq ≤ k) ∧ Drawn0 w wc)
  case first =>
    have H := HC2.out
    clear HC2
    by_cases c3 : (a0.size : Int) < 1
    · rw [if_pos c3] at H
      have c3b0 : decide ((a0.size : Int) < 1) = true := decide_eq_true c3
      have c3b1 : decide (a0.size < 1) = true := decide_eq_true (by omega)
      clear c3
      (first | rw [c3b0] | (simp only [i64_w, i32_w]; rw [c3b0]) | skip)
      have H' := Aside0.mk H
      clear H
      go_wp2
      go_meet
      case rel => exact ⟨_, (true), (by first | rfl | (simp; done) | (simp [*]; done)), H', ⟨by first | omega | exact Nat.le_refl _⟩, by repeat (first | exact Drawn0.refl _ | apply Drawn0.step)⟩
    · rw [if_neg c3] at H
      have c3b0 : decide ((a0.size : Int) < 1) = false := decide_eq_false c3
      have c3b1 : decide (a0.size < 1) = false := decide_eq_false (by omega)
      clear c3
      (first | rw [c3b0] | (simp only [i64_w, i32_w]; rw [c3b0]) | skip)
      by_cases c4 : (a0.size : Int) > 40
      · rw [if_pos c4] at H
        have c4b0 : decide (40 < (a0.size : Int)) = true := decide_eq_true c4
        have c4b1 : decide (40 < a0.size) = true := decide_eq_true (by omega)
        clear c4
        have H' := Aside0.mk H
        clear H
        go_wp2
        go_meet
        case rel => exact ⟨_, (true), (by first | rfl | (simp; done) | (simp [*]; done)), H', ⟨by first | omega | exact Nat.le_refl _⟩, by repeat (first | exact Drawn0.refl _ | apply Drawn0.step)⟩
      · rw [if_neg c4] at H
        have c4b0 : decide (40 < (a0.size : Int)) = false := decide_eq_false c4
        have c4b1 : decide (40 < a0.size) = false := decide_eq_false (by omega)
        clear c4
        by_cases c5 : 0 < (a0.size : Int)
        · rw [if_pos c5] at H
          have c5b0 : decide (0 < (a0.size : Int)) = true := decide_eq_true c5
          have c5b1 : decide (0 < a0.size) = true := decide_eq_true (by omega)
          clear c5
          replace H := Option.bind_eq_some_iff.mp H
          obtain ⟨t164, A70, H⟩ := H
          replace H : (monticuleref06_Is.j0 k a0 (!t164)) = some r := H
          have A7 := Aside0.mk A70
          clear A70
          have H' := Aside0.mk H
          clear H
          have p6 : 0 ≤ (0 : Int) := (by omega)
          have q6 : 0 < a0.size := (by have : (0 : Int) < (a0.size : Int) := of_decide_eq_true (by first | (with_reducible assumption) | assumption); omega)
          have hx6 : ∀ h : 0 < a0.size, ((a0[0]'h).toNat : Int) = bt a0 0 := bt_at a0 0
          clear p6
          have qi6 : (0 < (a0.size : Int)) = True := eq_true (of_decide_eq_true (by first | (with_reducible assumption) | assumption))
          replace q6 := eq_true q6
          go_wp2_with (first | (go_at_call 39; (with_reducible refine (monticuleref06_letter.calls (bt a0 0) t164 _ A7.out).mono ?_); rintro e w' ⟨rfl, ⟨nd, rfl⟩⟩))
          go_meet
          case rel => exact ⟨_, (!t164), (by first | rfl | (simp; done) | (simp [*]; done)), H', ⟨by first | omega | exact Nat.le_refl _⟩, by repeat (first | exact Drawn0.refl _ | apply Drawn0.step)⟩
        · rw [if_neg c5] at H
          exact absurd H (by simp)
  case rest =>
    clear HC2
    try clear c2
    try clear p2
    try clear c3
    try clear c3b0
    try clear c3b1
    try clear c4
    try clear c4b0
    try clear c4b1
    try clear c5
    try clear c5b0
    try clear c5b1
    try clear p6
    try clear q6
    try clear hx6
    try clear qi6
    try clear p6
    try clear q6
    obtain ⟨kq, x17_1, rfl, HA, HJ1, ⟨mc1, rfl⟩⟩ := hcut
    cases kq with
    | zero => exact absurd HA.out (by simp [monticuleref06_Is.j0])
    | succ kj1 =>
      have H := HA.out
      clear HA
      simp only [monticuleref06_Is.j0] at H
      by_cases c8 : x17_1 = true
      · subst c8
        have H1 : (some false) = some r := by rw [if_pos rfl] at H; exact H
        clear H
        have H := H1
        clear H1
        obtain rfl := Option.some.inj H
        go_wp2
        go_ret
        exact ⟨by first | rfl | (simp; done) | (simp [*]; done), by repeat (first | exact Drawn0.refl _ | apply Drawn0.step)⟩
      · replace c8 := Bool.eq_false_iff.mpr c8
        subst c8
        have H1 : (monticuleref06_Is.l0 kj1 a0 0) = some r := by rw [if_neg (show ¬ (false = true) by decide)] at H; exact H
        clear H
        have H := H1
        clear H1
        have H' := Aside0.mk H
        clear H
        go_wp2
        go_loopg [3] kj1 (fun kq v3 w' => ∃ (x3_2 : Int), v3 = .int .i64 x3_2 ∧ Aside0 (monticuleref06_Is.l0 kq a0 x3_2 = some r) ∧ Aside0 (kq ≤ kj1) ∧ Drawn0 w w')
        case atStart => exact ⟨(0), (by first | rfl | (simp; done) | (simp [*]; done)), H', ⟨Nat.le_refl _⟩, by repeat (first | exact Drawn0.refl _ | apply Drawn0.step)⟩
        case round =>
          clear H'
          try clear c1
          try clear c2
          try clear p2
          try clear c3
          try clear c3b0
          try clear c3b1
          try clear c4
          try clear c4b0
          try clear c4b1
          try clear c5
          try clear c5b0
          try clear c5b1
          try clear p6
          try clear q6
          try clear hx6
          try clear qi6
          try clear c8
          try clear p2
          try clear p6
          try clear q6
          obtain ⟨x3_2, rfl, HA, HK2, ⟨m2, rfl⟩⟩ := hrel
          cases gk with
          | zero => exact absurd HA.out (by simp [monticuleref06_Is.l0])
          | succ k2 =>
            have H := HA.out
            clear HA
            simp only [monticuleref06_Is.l0] at H
            by_cases c9 : x3_2 < (a0.size : Int)
            · rw [if_pos c9] at H
              have c9b0 : decide (x3_2 < (a0.size : Int)) = true := decide_eq_true c9
              clear c9
              by_cases c10 : 0 ≤ x3_2
              · rw [if_pos c10] at H
                have c10b0 : decide (0 ≤ x3_2) = true := decide_eq_true c10
                clear c10
                replace H := Option.bind_eq_some_iff.mp H
                obtain ⟨t165, A120, H⟩ := H
                replace H : (if t165 = true then (monticuleref06_Is.l0 k2 a0 (wrap64 (x3_2 + 1))) else (if (bt a0 x3_2) < 48 then (some false) else (if (bt a0 x3_2) > 57 then (some false) else (monticuleref06_Is.l0 k2 a0 (wrap64 (x3_2 + 1)))))) = some r := H
                have A12 := Aside0.mk A120
                clear A120
                by_cases c13 : t165 = true
                · subst c13
                  have H1 : (monticuleref06_Is.l0 k2 a0 (wrap64 (x3_2 + 1))) = some r := by rw [if_pos rfl] at H; exact H
                  clear H
                  have H := H1
                  clear H1
                  have H' := Aside0.mk H
                  clear H
                  have p11 : 0 ≤ (x3_2 : Int) := of_decide_eq_true (by first | (with_reducible assumption) | assumption)
                  have q11 : x3_2 < (a0.size : Int) := of_decide_eq_true (by first | (with_reducible assumption) | assumption)
                  have hx11 := bt_at a0 x3_2
                  replace p11 := eq_true p11
                  replace q11 := eq_true q11
                  go_wp2_with (first | ((with_reducible refine gate_callee (f := 39) rfl ?_); refine goesL_ (some 27) rfl rfl Tryd.func39 (by kernel_rfl) rfl #[.int .u8 (bt a0 x3_2)] rfl (by (try simp only [List.map_toArray, List.map_cons, List.map_nil]); first | done | rfl | (simp only [List.length_drop, List.length_take]; rfl)) ?_; (with_reducible refine (monticuleref06_letter.calls (bt a0 x3_2) true _ A12.out).mono ?_); rintro e w' ⟨rfl, ⟨nd, rfl⟩⟩; refine ⟨_, rfl, ?_⟩))
                  go_roundg k2
                  case measure => have := HJ1.out; have := HK2.out; omega
                  case rel => exact ⟨(wrap64 (x3_2 + 1)), (by first | rfl | (simp; done) | (simp [*]; done)), H', ⟨by have := HJ1.out; have := HK2.out; omega⟩, by repeat (first | exact Drawn0.refl _ | apply Drawn0.step)⟩
                · replace c13 := Bool.eq_false_iff.mpr c13
                  subst c13
                  have H1 : (if (bt a0 x3_2) < 48 then (some false) else (if (bt a0 x3_2) > 57 then (some false) else (monticuleref06_Is.l0 k2 a0 (wrap64 (x3_2 + 1))))) = some r := by rw [if_neg (show ¬ (false = true) by decide)] at H; exact H
                  clear H
                  have H := H1
                  clear H1
                  by_cases c15 : (bt a0 x3_2) < 48
                  · rw [if_pos c15] at H
                    have c15b0 : decide ((bt a0 x3_2) < 48) = true := decide_eq_true c15
                    clear c15
                    obtain rfl := Option.some.inj H
                    have p11 : 0 ≤ (x3_2 : Int) := of_decide_eq_true (by first | (with_reducible assumption) | assumption)
                    have q11 : x3_2 < (a0.size : Int) := of_decide_eq_true (by first | (with_reducible assumption) | assumption)
                    have hx11 := bt_at a0 x3_2
                    replace p11 := eq_true p11
                    replace q11 := eq_true q11
                    go_wp2_with (first | ((with_reducible refine gate_callee (f := 39) rfl ?_); refine goesL_ (some 27) rfl rfl Tryd.func39 (by kernel_rfl) rfl #[.int .u8 (bt a0 x3_2)] rfl (by (try simp only [List.map_toArray, List.map_cons, List.map_nil]); first | done | rfl | (simp only [List.length_drop, List.length_take]; rfl)) ?_; (with_reducible refine (monticuleref06_letter.calls (bt a0 x3_2) false _ A12.out).mono ?_); rintro e w' ⟨rfl, ⟨nd, rfl⟩⟩; refine ⟨_, rfl, ?_⟩; have p14 : 0 ≤ (x3_2 : Int) := of_decide_eq_true (by first | (with_reducible assumption) | assumption); have q14 : x3_2 < (a0.size : Int) := of_decide_eq_true (by first | (with_reducible assumption) | assumption); have hx14 := bt_at a0 x3_2; replace p14 := eq_true p14; replace q14 := eq_true q14))
                    go_ret
                    exact ⟨by first | rfl | (simp; done) | (simp [*]; done), by repeat (first | exact Drawn0.refl _ | apply Drawn0.step)⟩
                  · rw [if_neg c15] at H
                    have c15b0 : decide ((bt a0 x3_2) < 48) = false := decide_eq_false c15
                    clear c15
                    by_cases c17 : (bt a0 x3_2) > 57
                    · rw [if_pos c17] at H
                      have c17b0 : decide (57 < (bt a0 x3_2)) = true := decide_eq_true c17
                      clear c17
                      obtain rfl := Option.some.inj H
                      have p11 : 0 ≤ (x3_2 : Int) := of_decide_eq_true (by first | (with_reducible assumption) | assumption)
                      have q11 : x3_2 < (a0.size : Int) := of_decide_eq_true (by first | (with_reducible assumption) | assumption)
                      have hx11 := bt_at a0 x3_2
                      replace p11 := eq_true p11
                      replace q11 := eq_true q11
                      go_wp2_with (first | ((with_reducible refine gate_callee (f := 39) rfl ?_); refine goesL_ (some 27) rfl rfl Tryd.func39 (by kernel_rfl) rfl #[.int .u8 (bt a0 x3_2)] rfl (by (try simp only [List.map_toArray, List.map_cons, List.map_nil]); first | done | rfl | (simp only [List.length_drop, List.length_take]; rfl)) ?_; (with_reducible refine (monticuleref06_letter.calls (bt a0 x3_2) false _ A12.out).mono ?_); rintro e w' ⟨rfl, ⟨nd, rfl⟩⟩; refine ⟨_, rfl, ?_⟩; have p14 : 0 ≤ (x3_2 : Int) := of_decide_eq_true (by first | (with_reducible assumption) | assumption); have q14 : x3_2 < (a0.size : Int) := of_decide_eq_true (by first | (with_reducible assumption) | assumption); have hx14 := bt_at a0 x3_2; replace p14 := eq_true p14; replace q14 := eq_true q14; have p16 : 0 ≤ (x3_2 : Int) := of_decide_eq_true (by first | (with_reducible assumption) | assumption); have q16 : x3_2 < (a0.size : Int) := of_decide_eq_true (by first | (with_reducible assumption) | assumption); have hx16 := bt_at a0 x3_2; replace p16 := eq_true p16; replace q16 := eq_true q16))
                      go_ret
                      exact ⟨by first | rfl | (simp; done) | (simp [*]; done), by repeat (first | exact Drawn0.refl _ | apply Drawn0.step)⟩
                    · rw [if_neg c17] at H
                      have c17b0 : decide (57 < (bt a0 x3_2)) = false := decide_eq_false c17
                      clear c17
                      have H' := Aside0.mk H
                      clear H
                      have p11 : 0 ≤ (x3_2 : Int) := of_decide_eq_true (by first | (with_reducible assumption) | assumption)
                      have q11 : x3_2 < (a0.size : Int) := of_decide_eq_true (by first | (with_reducible assumption) | assumption)
                      have hx11 := bt_at a0 x3_2
                      replace p11 := eq_true p11
                      replace q11 := eq_true q11
                      go_wp2_with (first | ((with_reducible refine gate_callee (f := 39) rfl ?_); refine goesL_ (some 27) rfl rfl Tryd.func39 (by kernel_rfl) rfl #[.int .u8 (bt a0 x3_2)] rfl (by (try simp only [List.map_toArray, List.map_cons, List.map_nil]); first | done | rfl | (simp only [List.length_drop, List.length_take]; rfl)) ?_; (with_reducible refine (monticuleref06_letter.calls (bt a0 x3_2) false _ A12.out).mono ?_); rintro e w' ⟨rfl, ⟨nd, rfl⟩⟩; refine ⟨_, rfl, ?_⟩; have p14 : 0 ≤ (x3_2 : Int) := of_decide_eq_true (by first | (with_reducible assumption) | assumption); have q14 : x3_2 < (a0.size : Int) := of_decide_eq_true (by first | (with_reducible assumption) | assumption); have hx14 := bt_at a0 x3_2; replace p14 := eq_true p14; replace q14 := eq_true q14; have p16 : 0 ≤ (x3_2 : Int) := of_decide_eq_true (by first | (with_reducible assumption) | assumption); have q16 : x3_2 < (a0.size : Int) := of_decide_eq_true (by first | (with_reducible assumption) | assumption); have hx16 := bt_at a0 x3_2; replace p16 := eq_true p16; replace q16 := eq_true q16))
                      go_roundg k2
                      case measure => have := HJ1.out; have := HK2.out; omega
                      case rel => exact ⟨(wrap64 (x3_2 + 1)), (by first | rfl | (simp; done) | (simp [*]; done)), H', ⟨by have := HJ1.out; have := HK2.out; omega⟩, by repeat (first | exact Drawn0.refl _ | apply Drawn0.step)⟩
              · rw [if_neg c10] at H
                exact absurd H (by simp)
            · rw [if_neg c9] at H
              have c9b0 : decide (x3_2 < (a0.size : Int)) = false := decide_eq_false c9
              clear c9
              obtain rfl := Option.some.inj H
              go_wp2
              go_ret
              exact ⟨by first | rfl | (simp; done) | (simp [*]; done), by repeat (first | exact Drawn0.refl _ | apply Drawn0.step)⟩

/-! ### monticuleref06_Class: function 13 -/
def monticuleref06_Class.f (k : Nat) (a0 : ByteArray) : Option (Bool) := (monticuleref06_Is.f k a0).bind fun t166 => (if t166 = true then (if 0 < (a0.size : Int) then ((monticuleref06_small.f (bt a0 0)).bind fun t167 => (some (!t167))) else (none)) else (some false))
theorem monticuleref06_Class.mono : ∀ a0 k, LeO (monticuleref06_Class.f k a0) (monticuleref06_Class.f (k + 1) a0) := by
  intro a0 k
  unfold monticuleref06_Class.f
  repeat' first
      | (with_reducible exact monticuleref06_Is.mono _ _)
      | (with_reducible exact LeO.refl _)
      | (with_reducible exact LeO.none _)
      | (with_reducible refine LeO.ite ?_ ?_)
      | (with_reducible refine LeO.bind ?_ (fun _ => ?_))
      | exact monticuleref06_Is.mono _ _
      | exact LeO.none _
      | refine LeO.ite ?_ ?_
      | refine LeO.bind ?_ (fun _ => ?_)
set_option maxHeartbeats 8000000 in
set_option maxRecDepth 100000 in
theorem monticuleref06_Class.calls (k : Nat) (a0 : ByteArray) (r : Bool) (w : World) (h : monticuleref06_Class.f k a0 = some r) :
    Calls Tryd.prog 13 #[.string a0] w fun e w' => e = .returned (.bool r) ∧ Drawn0 w w' := by
  have H : ((monticuleref06_Is.f k a0).bind fun t166 => (if t166 = true then (if 0 < (a0.size : Int) then ((monticuleref06_small.f (bt a0 0)).bind fun t167 => (some (!t167))) else (none)) else (some false))) = some r := h
  clear h
  replace H := Option.bind_eq_some_iff.mp H
  obtain ⟨t166, A20, H⟩ := H
  replace H : (if t166 = true then (if 0 < (a0.size : Int) then ((monticuleref06_small.f (bt a0 0)).bind fun t167 => (some (!t167))) else (none)) else (some false)) = some r := H
  have A2 := Aside0.mk A20
  clear A20
  by_cases c3 : t166 = true
  · subst c3
    have H1 : (if 0 < (a0.size : Int) then ((monticuleref06_small.f (bt a0 0)).bind fun t167 => (some (!t167))) else (none)) = some r := by rw [if_pos rfl] at H; exact H
    clear H
    have H := H1
    clear H1
    by_cases c4 : 0 < (a0.size : Int)
    · rw [if_pos c4] at H
      have c4b0 : decide (0 < (a0.size : Int)) = true := decide_eq_true c4
      have c4b1 : decide (0 < a0.size) = true := decide_eq_true (by omega)
      clear c4
      replace H := Option.bind_eq_some_iff.mp H
      obtain ⟨t167, A60, H⟩ := H
      replace H : (some (!t167)) = some r := H
      have A6 := Aside0.mk A60
      clear A60
      obtain rfl := Option.some.inj H
      go_enter Tryd.func13, Tryd.ntmps13
      go_wp2_with (first | ((with_reducible refine gate_callee (f := 25) rfl ?_); refine goesL_ (some 4) rfl rfl Tryd.func25 (by kernel_rfl) rfl #[.string a0] rfl (by (try simp only [List.map_toArray, List.map_cons, List.map_nil]); first | done | rfl | (simp only [List.length_drop, List.length_take]; rfl)) ?_; (with_reducible refine (monticuleref06_Is.calls k a0 true _ A2.out).mono ?_); rintro e w' ⟨rfl, ⟨nd, rfl⟩⟩; refine ⟨_, rfl, ?_⟩; have p5 : 0 ≤ (0 : Int) := (by omega); have q5 : 0 < a0.size := (by have : (0 : Int) < (a0.size : Int) := of_decide_eq_true (by first | (with_reducible assumption) | assumption); omega); have hx5 : ∀ h : 0 < a0.size, ((a0[0]'h).toNat : Int) = bt a0 0 := bt_at a0 0; clear p5; have qi5 : (0 < (a0.size : Int)) = True := eq_true (of_decide_eq_true (by first | (with_reducible assumption) | assumption)); replace q5 := eq_true q5) | (go_at_call 26; (with_reducible refine (monticuleref06_small.calls (bt a0 0) t167 _ A6.out).mono ?_); rintro e w' ⟨rfl, ⟨nd, rfl⟩⟩))
      go_ret
      exact ⟨by first | rfl | (simp; done) | (simp [*]; done), by repeat (first | exact Drawn0.refl _ | apply Drawn0.step)⟩
    · rw [if_neg c4] at H
      exact absurd H (by simp)
  · replace c3 := Bool.eq_false_iff.mpr c3
    subst c3
    have H1 : (some false) = some r := by rw [if_neg (show ¬ (false = true) by decide)] at H; exact H
    clear H
    have H := H1
    clear H1
    obtain rfl := Option.some.inj H
    go_enter Tryd.func13, Tryd.ntmps13
    go_wp2_with (first | ((with_reducible refine gate_callee (f := 25) rfl ?_); refine goesL_ (some 4) rfl rfl Tryd.func25 (by kernel_rfl) rfl #[.string a0] rfl (by (try simp only [List.map_toArray, List.map_cons, List.map_nil]); first | done | rfl | (simp only [List.length_drop, List.length_take]; rfl)) ?_; (with_reducible refine (monticuleref06_Is.calls k a0 false _ A2.out).mono ?_); rintro e w' ⟨rfl, ⟨nd, rfl⟩⟩; refine ⟨_, rfl, ?_⟩))
    go_ret
    exact ⟨by first | rfl | (simp; done) | (simp [*]; done), by repeat (first | exact Drawn0.refl _ | apply Drawn0.step)⟩

/-! ### monticuleref01_Same: function 14 -/
def monticuleref01_Same.l0 : Nat → List ByteArray → List ByteArray → Int → Option (Bool)
  | 0, _, _, _ => none
  | k + 1, x0, x1, x5 => if x5 < (x0.length : Int) then (if 0 ≤ x5 then (if x5 < (x1.length : Int) then (if (rdOf ByteArray.empty x0 x5).toList = (rdOf ByteArray.empty x1 x5).toList then (monticuleref01_Same.l0 k x0 x1 (wrap64 (x5 + 1))) else (some false)) else (none)) else (none)) else (some true)
def monticuleref01_Same.f (k : Nat) (l0 : List ByteArray) (l1 : List ByteArray) : Option (Bool) := if (l0.length : Int) = (l1.length : Int) then (monticuleref01_Same.l0 k l0 l1 0) else (some false)
theorem monticuleref01_Same.mono_l : ∀ k, (∀ y0 y1 y2, LeO (monticuleref01_Same.l0 k y0 y1 y2) (monticuleref01_Same.l0 (k + 1) y0 y1 y2))
  | 0 => fun _ _ _ r h => by simp [monticuleref01_Same.l0] at h
  | k + 1 => by
    have ih0 := monticuleref01_Same.mono_l k
    · intro y0 y1 y2
      unfold monticuleref01_Same.l0
      repeat' first
      | (with_reducible exact ih0 _ _ _)
      | (with_reducible exact LeO.refl _)
      | (with_reducible exact LeO.none _)
      | (with_reducible refine LeO.ite ?_ ?_)
      | (with_reducible refine LeO.bind ?_ (fun _ => ?_))
      | exact ih0 _ _ _
      | exact LeO.none _
      | refine LeO.ite ?_ ?_
      | refine LeO.bind ?_ (fun _ => ?_)
theorem monticuleref01_Same.mono : ∀ a0 a1 k, LeO (monticuleref01_Same.f k a0 a1) (monticuleref01_Same.f (k + 1) a0 a1) := by
  intro a0 a1 k
  have ih0 := monticuleref01_Same.mono_l k
  unfold monticuleref01_Same.f
  repeat' first
      | (with_reducible exact ih0 _ _ _)
      | (with_reducible exact LeO.refl _)
      | (with_reducible exact LeO.none _)
      | (with_reducible refine LeO.ite ?_ ?_)
      | (with_reducible refine LeO.bind ?_ (fun _ => ?_))
      | exact ih0 _ _ _
      | exact LeO.none _
      | refine LeO.ite ?_ ?_
      | refine LeO.bind ?_ (fun _ => ?_)
set_option maxHeartbeats 8000000 in
set_option maxRecDepth 100000 in
theorem monticuleref01_Same.calls (k : Nat) (A0 : Option Addr) (c0 : Nat) (l0 : List ByteArray) (A1 : Option Addr) (c1 : Nat) (l1 : List ByteArray) (r : Bool) (w : World) (hr0 : Kd.C Kd.string w A0 l0.length l0) (hc0 : l0.length ≤ c0) (hr1 : Kd.C Kd.string w A1 l1.length l1) (hc1 : l1.length ≤ c1) (h : monticuleref01_Same.f k l0 l1 = some r) :
    Calls Tryd.prog 14 #[.slice A0 l0.length c0, .slice A1 l1.length c1] w fun e w' => e = .returned (.bool r) ∧ Drawn0 w w' := by
  have HR0 := Aside0.mk hr0
  have HC0 := Aside0.mk hc0
  clear hr0 hc0
  have HR1 := Aside0.mk hr1
  have HC1 := Aside0.mk hc1
  clear hr1 hc1
  have H : (if (l0.length : Int) = (l1.length : Int) then (monticuleref01_Same.l0 k l0 l1 0) else (some false)) = some r := h
  clear h
  by_cases c3 : (l0.length : Int) = (l1.length : Int)
  · rw [if_pos c3] at H
    have c3b0 : ((l0.length : Int) == (l1.length : Int)) = true := beq_iff_eq.mpr c3
    have c3b1 : ((l0.length : Int) != (l1.length : Int)) = false := bne_eq_false_iff_eq.mpr c3
    have c3b2 : (l0.length == l1.length) = true := by first | simpa using c3 | (simp at c3 ⊢; omega)
    clear c3
    have H' := Aside0.mk H
    clear H
    go_enter Tryd.func14, Tryd.ntmps14
    go_wp2
    repeat (go_quiet (fail); try go_wp2)
    go_loopg [5] k (fun kq v5 w' => ∃ (x5_1 : Int), v5 = .int .i64 x5_1 ∧ Aside0 (monticuleref01_Same.l0 kq l0 l1 x5_1 = some r) ∧ Aside0 (kq ≤ k) ∧ Drawn0 w w')
    case atStart => exact ⟨(0), (by first | rfl | (simp; done) | (simp [*]; done)), H', ⟨Nat.le_refl _⟩, by repeat (first | exact Drawn0.refl _ | apply Drawn0.step)⟩
    case round =>
      clear H'
      try clear c1
      try clear p2
      try clear c3
      try clear c3b0
      try clear c3b1
      try clear c3b2
      obtain ⟨x5_1, rfl, HA, HK1, ⟨m1, rfl⟩⟩ := hrel
      cases gk with
      | zero => exact absurd HA.out (by simp [monticuleref01_Same.l0])
      | succ k1 =>
        have H := HA.out
        clear HA
        simp only [monticuleref01_Same.l0] at H
        by_cases c4 : x5_1 < (l0.length : Int)
        · rw [if_pos c4] at H
          have c4b0 : decide (x5_1 < (l0.length : Int)) = true := decide_eq_true c4
          clear c4
          by_cases c5 : 0 ≤ x5_1
          · rw [if_pos c5] at H
            have c5b0 : decide (0 ≤ x5_1) = true := decide_eq_true c5
            clear c5
            by_cases c6 : x5_1 < (l1.length : Int)
            · rw [if_pos c6] at H
              have c6b0 : decide (x5_1 < (l1.length : Int)) = true := decide_eq_true c6
              clear c6
              by_cases c7 : (rdOf ByteArray.empty l0 x5_1).toList = (rdOf ByteArray.empty l1 x5_1).toList
              · rw [if_pos c7] at H
                have c7b0 : ((rdOf ByteArray.empty l0 x5_1).toList == (rdOf ByteArray.empty l1 x5_1).toList) = true := beq_iff_eq.mpr c7
                have c7b1 : ((rdOf ByteArray.empty l0 x5_1).toList != (rdOf ByteArray.empty l1 x5_1).toList) = false := bne_eq_false_iff_eq.mpr c7
                clear c7
                have H' := Aside0.mk H
                clear H
                have p168 : 0 ≤ (x5_1 : Int) := of_decide_eq_true (by first | (with_reducible assumption) | assumption)
                have q168 : x5_1 < (l0.length : Int) := of_decide_eq_true (by first | (with_reducible assumption) | assumption)
                obtain ⟨ad168, e168, hx168_0⟩ := Kd.at_string HR0.out x5_1 p168 q168
                cases e168
                replace p168 := eq_true p168
                replace q168 := eq_true q168
                have p169 : 0 ≤ (x5_1 : Int) := of_decide_eq_true (by first | (with_reducible assumption) | assumption)
                have q169 : x5_1 < (l1.length : Int) := of_decide_eq_true (by first | (with_reducible assumption) | assumption)
                obtain ⟨ad169, e169, hx169_0⟩ := Kd.at_string HR1.out x5_1 p169 q169
                cases e169
                replace p169 := eq_true p169
                replace q169 := eq_true q169
                go_wp2
                repeat (go_quiet (fail); try go_wp2)
                go_roundg k1
                case measure => have := HK1.out; omega
                case rel => exact ⟨(wrap64 (x5_1 + 1)), (by first | rfl | (simp; done) | (simp [*]; done)), H', ⟨by have := HK1.out; omega⟩, by repeat (first | exact Drawn0.refl _ | apply Drawn0.step)⟩
              · rw [if_neg c7] at H
                have c7b0 : ((rdOf ByteArray.empty l0 x5_1).toList == (rdOf ByteArray.empty l1 x5_1).toList) = false := beq_eq_false_iff_ne.mpr c7
                have c7b1 : ((rdOf ByteArray.empty l0 x5_1).toList != (rdOf ByteArray.empty l1 x5_1).toList) = true := bne_iff_ne.mpr c7
                obtain rfl := Option.some.inj H
                have p168 : 0 ≤ (x5_1 : Int) := of_decide_eq_true (by first | (with_reducible assumption) | assumption)
                have q168 : x5_1 < (l0.length : Int) := of_decide_eq_true (by first | (with_reducible assumption) | assumption)
                obtain ⟨ad168, e168, hx168_0⟩ := Kd.at_string HR0.out x5_1 p168 q168
                cases e168
                replace p168 := eq_true p168
                replace q168 := eq_true q168
                have p169 : 0 ≤ (x5_1 : Int) := of_decide_eq_true (by first | (with_reducible assumption) | assumption)
                have q169 : x5_1 < (l1.length : Int) := of_decide_eq_true (by first | (with_reducible assumption) | assumption)
                obtain ⟨ad169, e169, hx169_0⟩ := Kd.at_string HR1.out x5_1 p169 q169
                cases e169
                replace p169 := eq_true p169
                replace q169 := eq_true q169
                go_wp2
                repeat (go_quiet (fail); try go_wp2)
                go_ret
                exact ⟨by first | rfl | (simp; done) | (simp [*]; done), by repeat (first | exact Drawn0.refl _ | apply Drawn0.step)⟩
            · rw [if_neg c6] at H
              exact absurd H (by simp)
          · rw [if_neg c5] at H
            exact absurd H (by simp)
        · rw [if_neg c4] at H
          have c4b0 : decide (x5_1 < (l0.length : Int)) = false := decide_eq_false c4
          clear c4
          obtain rfl := Option.some.inj H
          go_wp2
          repeat (go_quiet (fail); try go_wp2)
          go_ret
          exact ⟨by first | rfl | (simp; done) | (simp [*]; done), by repeat (first | exact Drawn0.refl _ | apply Drawn0.step)⟩
  · rw [if_neg c3] at H
    have c3b0 : ((l0.length : Int) == (l1.length : Int)) = false := beq_eq_false_iff_ne.mpr c3
    have c3b1 : ((l0.length : Int) != (l1.length : Int)) = true := bne_iff_ne.mpr c3
    have c3b2 : (l0.length == l1.length) = false := by first | simpa using c3 | (simp at c3 ⊢; omega)
    obtain rfl := Option.some.inj H
    go_enter Tryd.func14, Tryd.ntmps14
    go_wp2
    repeat (go_quiet (fail); try go_wp2)
    go_ret
    exact ⟨by first | rfl | (simp; done) | (simp [*]; done), by repeat (first | exact Drawn0.refl _ | apply Drawn0.step)⟩

/-! ### plan_Needed: function 15 -/
def plan_Needed.l0 : Nat → ByteArray → List ByteArray → List (S42) → Int → Int → Option (List ByteArray)
  | 0, _, _, _, _, _ => none
  | k + 1, x1, x5, x8, x9, x10 => if x10 < x9 then (if 0 ≤ x10 then (if x10 < (x8.length : Int) then ((slices_Contains_string_string.f k ((rd_T42 x8 x10).f2) x1).bind fun t172 => (if t172 = true then (if x5.length < 8796093022208 then (plan_Needed.l0 k x1 (x5 ++ [(rd_T42 x8 x10).f0]) x8 x9 (wrap64 (x10 + 1))) else (none)) else (plan_Needed.l0 k x1 x5 x8 x9 (wrap64 (x10 + 1))))) else (none)) else (none)) else (some x5)
def plan_Needed.f (k : Nat) (l0 : List (S42)) (a1 : ByteArray) : Option (List ByteArray) := plan_Needed.l0 k a1 ([] : List ByteArray) l0 (l0.length : Int) 0
theorem plan_Needed.mono_l : ∀ k, (∀ y0 y1 y2 y3 y4, LeO (plan_Needed.l0 k y0 y1 y2 y3 y4) (plan_Needed.l0 (k + 1) y0 y1 y2 y3 y4))
  | 0 => fun _ _ _ _ _ r h => by simp [plan_Needed.l0] at h
  | k + 1 => by
    have ih0 := plan_Needed.mono_l k
    · intro y0 y1 y2 y3 y4
      unfold plan_Needed.l0
      repeat' first
      | (with_reducible exact ih0 _ _ _ _ _)
      | (with_reducible exact slices_Contains_string_string.mono _ _ _)
      | (with_reducible exact LeO.refl _)
      | (with_reducible exact LeO.none _)
      | (with_reducible refine LeO.ite ?_ ?_)
      | (with_reducible refine LeO.bind ?_ (fun _ => ?_))
      | exact ih0 _ _ _ _ _
      | exact slices_Contains_string_string.mono _ _ _
      | exact LeO.none _
      | refine LeO.ite ?_ ?_
      | refine LeO.bind ?_ (fun _ => ?_)
theorem plan_Needed.mono : ∀ a0 a1 k, LeO (plan_Needed.f k a0 a1) (plan_Needed.f (k + 1) a0 a1) := by
  intro a0 a1 k
  have ih0 := plan_Needed.mono_l k
  unfold plan_Needed.f
  repeat' first
      | (with_reducible exact ih0 _ _ _ _ _)
      | (with_reducible exact slices_Contains_string_string.mono _ _ _)
      | (with_reducible exact LeO.refl _)
      | (with_reducible exact LeO.none _)
      | (with_reducible refine LeO.ite ?_ ?_)
      | (with_reducible refine LeO.bind ?_ (fun _ => ?_))
      | exact ih0 _ _ _ _ _
      | exact slices_Contains_string_string.mono _ _ _
      | exact LeO.none _
      | refine LeO.ite ?_ ?_
      | refine LeO.bind ?_ (fun _ => ?_)
set_option maxHeartbeats 8000000 in
set_option maxRecDepth 100000 in
theorem plan_Needed.calls (k : Nat) (A0 : Option Addr) (c0 : Nat) (l0 : List (S42)) (a1 : ByteArray) (r : List ByteArray) (w : World) (hr0 : Kd.C k42 w A0 l0.length l0) (hc0 : l0.length ≤ c0) (h : plan_Needed.f k l0 a1 = some r) :
    Calls Tryd.prog 15 #[.slice A0 l0.length c0, .string a1] w fun e w' => ∃ v0_ : Value, e = .returned (v0_) ∧ Kd.R Kd.string 9 w' w.heap.size (fun _ => True) v0_ r ∧ Below w.heap.size w w' := by
  have hu42 := Tryd.underlying42
  have HR0 := Aside0.mk hr0
  have HC0 := Aside0.mk hc0
  clear hr0 hc0
  have HB := Aside0.mk (Below.refl w.heap.size w)
  have H : (plan_Needed.l0 k a1 ([] : List ByteArray) l0 (l0.length : Int) 0) = some r := h
  clear h
  have H' := Aside0.mk H
  clear H
  go_enter Tryd.func15, Tryd.ntmps15
  go_wp2
  go_loopg [5, 10] k (fun kq v5 v10 w' => ∃ (x5_1 : List ByteArray) (x10_1 : Int), v10 = .int .i64 x10_1 ∧ Aside0 (plan_Needed.l0 kq a1 x5_1 l0 (l0.length : Int) x10_1 = some r) ∧ Aside0 (kq ≤ k) ∧ Aside0 (Kd.R Kd.string 9 w' w.heap.size (fun _ => True) v5 x5_1) ∧ Aside0 (Below w.heap.size w w'))
  case atStart => exact ⟨(([] : List ByteArray)), (0), (by first | rfl | (simp; done) | (simp [*]; done)), H', ⟨Nat.le_refl _⟩, ⟨by first | exact Kd.R_nil _ _ _ _ _ | exact Kd.N_nil _ _ _ _ _ | exact Kd.V_nil _ _ _ _ _ | exact Kd.Q_nil _ _ _ _ _ | exact Kd.S_nil _ _ _ _ _⟩, ⟨by repeat (first | (with_reducible first | exact HB.out | apply below_alloc | apply pw_below_drewN | apply below_drew1) | exact HB.out)⟩⟩
  case round =>
    clear H'
    try clear c1
    try clear p2
    obtain ⟨x5_1, x10_1, rfl, HA, HK1, HO_5, HB⟩ := hrel
    cases gk with
    | zero => exact absurd HA.out (by simp [plan_Needed.l0])
    | succ k1 =>
      have H := HA.out
      clear HA
      simp only [plan_Needed.l0] at H
      by_cases c3 : x10_1 < (l0.length : Int)
      · rw [if_pos c3] at H
        have c3b0 : decide (x10_1 < (l0.length : Int)) = true := decide_eq_true c3
        clear c3
        by_cases c4 : 0 ≤ x10_1
        · rw [if_pos c4] at H
          have c4b0 : decide (0 ≤ x10_1) = true := decide_eq_true c4
          clear c4
          by_cases c5 : x10_1 < (l0.length : Int)
          · rw [if_pos c5] at H
            have c5b0 : decide (x10_1 < (l0.length : Int)) = true := decide_eq_true c5
            clear c5
            replace H := Option.bind_eq_some_iff.mp H
            obtain ⟨t172, A60, H⟩ := H
            replace H : (if t172 = true then (if x5_1.length < 8796093022208 then (plan_Needed.l0 k1 a1 (x5_1 ++ [(rd_T42 l0 x10_1).f0]) l0 (l0.length : Int) (wrap64 (x10_1 + 1))) else (none)) else (plan_Needed.l0 k1 a1 x5_1 l0 (l0.length : Int) (wrap64 (x10_1 + 1)))) = some r := H
            have A6 := Aside0.mk A60
            clear A60
            by_cases c7 : t172 = true
            · subst c7
              have H1 : (if x5_1.length < 8796093022208 then (plan_Needed.l0 k1 a1 (x5_1 ++ [(rd_T42 l0 x10_1).f0]) l0 (l0.length : Int) (wrap64 (x10_1 + 1))) else (none)) = some r := by rw [if_pos rfl] at H; exact H
              clear H
              have H := H1
              clear H1
              by_cases c8 : x5_1.length < 8796093022208
              · rw [if_pos c8] at H
                have LMc8 := Aside0.mk c8
                clear c8
                obtain ⟨y173, hy173⟩ : ∃ y_ : List ByteArray, y_ = (x5_1 ++ [(rd_T42 l0 x10_1).f0]) := ⟨_, rfl⟩
                replace H : (plan_Needed.l0 k1 a1 y173 l0 (l0.length : Int) (wrap64 (x10_1 + 1))) = some r := by first | (rw [hy173]; with_reducible exact H) | (have H2_ := (Option.bind_some _ _).symm.trans H; rw [hy173]; with_reducible exact H2_) | (have H2_ := (Option.bind_some _ _).symm.trans H; with_reducible exact H2_) | with_reducible exact H | (rw [hy173]; exact H) | exact H
                have Ny173 := Aside0.mk hy173
                clear hy173
                have H' := Aside0.mk H
                clear H
                have p170 : 0 ≤ (x10_1 : Int) := of_decide_eq_true (by first | (with_reducible assumption) | assumption)
                have q170 : x10_1 < (l0.length : Int) := of_decide_eq_true (by first | (with_reducible assumption) | assumption)
                obtain ⟨ad170, A170_2, c170_2, A170_3, c170_3, e170, hx170_0, hx170_1, hx170_2, hx170_3, hl170_2, hi170_2, hl170_3, hi170_3⟩ := at_T42 HR0.out x10_1 p170 q170
                cases e170
                replace hx170_0 := (HB.out.cell (World.block_lt_of_cell? w _ hx170_0)).trans hx170_0
                replace hx170_1 := (HB.out.cell (World.block_lt_of_cell? w _ hx170_1)).trans hx170_1
                replace hx170_2 := (HB.out.cell (World.block_lt_of_cell? w _ hx170_2)).trans hx170_2
                replace hx170_3 := (HB.out.cell (World.block_lt_of_cell? w _ hx170_3)).trans hx170_3
                have HR170_2 := Aside0.mk hi170_2
                have HC170_2 := Aside0.mk hl170_2
                clear hi170_2 hl170_2
                have HR170_3 := Aside0.mk hi170_3
                have HC170_3 := Aside0.mk hl170_3
                clear hi170_3 hl170_3
                replace p170 := eq_true p170
                replace q170 := eq_true q170
                go_wp2_with (first | ((with_reducible refine gate_dst (N := 7) rfl ?_); refine box_event ?hg (N := 7) ?hd (cs := #[.string (⟨#[]⟩ : ByteArray), .int .i64 0, .slice none 0 0, .slice none 0 0]) (t := 42) ?hr ?_; (case hd => rfl); (case hg => rfl); (case hr => first | (go_simp; done) | (go_simp; rfl)); intro gb171 hg w9 hbox hb; have n0_ := Aside0.mk (Kd.R_below (by (with_reducible repeat (first | apply Kd.R_alloc | apply Kd.R_drewN | apply Kd.R_drew)); exact HO_5.out) hb); have n1_ := Aside0.mk (below_step (by repeat (first | (with_reducible first | exact HB.out | apply below_alloc | apply pw_below_drewN | apply below_drew1) | exact HB.out)) hb); have n2_ := Aside0.mk (hbox); have n3_ := Aside0.mk ((by rw [hg]; exact (below_size (by repeat (first | (with_reducible first | exact HB.out | apply below_alloc | apply pw_below_drewN | apply below_drew1) | exact HB.out))) : w.heap.size ≤ gb171)); have n4_ := Aside0.mk ((by rw [hg]; exact (below_size (by repeat (first | (with_reducible first | exact HB.out | apply below_alloc | apply pw_below_drewN | apply below_drew1) | exact HB.out))) : w.heap.size ≤ gb171)); clear HO_5; clear HB; have HO_5 := n0_; have HB := n1_; have BK171 := n2_; have GW171 := n3_; have GE171 := n4_; clear n0_ n1_ n2_ n3_ n4_; clear hb hbox hg; have hcz10_0 : w9.cell? ⟨gb171, 0, none⟩ = some (.string (⟨#[]⟩ : ByteArray)) := (blk_cell BK171.out 0).trans rfl; have hcz10_1 : w9.cell? ⟨gb171, 1, none⟩ = some (.int .i64 0) := (blk_cell BK171.out 1).trans rfl; have hcz10_2 : w9.cell? ⟨gb171, 2, none⟩ = some (.slice none 0 0) := (blk_cell BK171.out 2).trans rfl; have hcz10_3 : w9.cell? ⟨gb171, 3, none⟩ = some (.slice none 0 0) := (blk_cell BK171.out 3).trans rfl; have hfz10_0 := blk_frozen BK171.out 0; have hfz10_1 := blk_frozen BK171.out 1; have hfz10_2 := blk_frozen BK171.out 2; have hfz10_3 := blk_frozen BK171.out 3) | ((with_reducible refine gate_callee (f := 27) rfl ?_); refine goesL_ (some 17) rfl rfl Tryd.func27 (by kernel_rfl) rfl #[.slice A170_2 ((rd_T42 l0 x10_1).f2).length c170_2, .string a1] rfl (by (try simp only [List.map_toArray, List.map_cons, List.map_nil]); first | done | rfl | (simp only [List.length_drop, List.length_take]; rfl)) ?_; (with_reducible refine (slices_Contains_string_string.calls k1 _ _ ((rd_T42 l0 x10_1).f2) a1 true _ ?side1 ?side2 A6.out).mono ?_); (case side1 => exact Kd.C_below HR170_2.out (by repeat (first | (with_reducible first | exact HB.out | apply below_alloc | apply pw_below_drewN | apply below_drew1 | refine below_set ?_ GE171.out) | exact HB.out))); (case side2 => exact HC170_2.out); rintro e w' ⟨rfl, ⟨nd, rfl⟩⟩; refine ⟨_, rfl, ?_⟩) | ((with_reducible refine gate_builtin (b := .append) (xs := #[.tmp 18, .tmp 21]) rfl ?_); at_builtin; refine Kd.R_append Kd.string (w0 := w) w.heap.size rfl (.tmp 18) (.tmp 21) 22 9 (.string ⟨#[]⟩) 16 rfl Tryd.underlying22 info9 rfl (by decide) (by omega) u5 x5_1 ((rd_T42 l0 x10_1).f0) [.string ((rd_T42 l0 x10_1).f0)] (fun _ => True) (fun _ => False) rfl (by first | (go_simp; done) | (go_simp; rfl)) ?aP (fun _ hk => hk.elim) ?aF ?aO ?aB ?aS ?aL ?_; (case aP => exact rfl); (case aB => exact (by repeat (first | (with_reducible first | exact HB.out | apply below_alloc | apply pw_below_drewN | apply below_drew1 | refine below_set ?_ GE171.out) | exact HB.out))); (case aF => exact (fun _ _ => trivial)); (case aO => exact (by (with_reducible repeat (first | apply Kd.R_alloc | apply Kd.R_drewN | apply Kd.R_drew)); exact Kd.R_mono (Kd.R_far (p := ⟨gb171, 3, none⟩) (Kd.R_far (p := ⟨gb171, 2, none⟩) (Kd.R_far (p := ⟨gb171, 1, none⟩) (Kd.R_far (p := ⟨gb171, 0, none⟩) (Kd.R_types HO_5.out BK171.out (by decide)) (fun _ hk => hk.2) (.string ((rd_T42 l0 x10_1).f0))) (fun _ hk => hk.2) (.int .i64 ((rd_T42 l0 x10_1).f1))) (fun _ hk => hk.2) (.slice A170_2 ((rd_T42 l0 x10_1).f2).length c170_2)) (fun _ hk => hk.2) (.slice A170_3 ((rd_T42 l0 x10_1).f3).length c170_3)) (fun _ hk => trivial))); (case aS => exact (below_size (by repeat (first | (with_reducible first | exact HB.out | apply below_alloc | apply pw_below_drewN | apply below_drew1 | refine below_set ?_ GE171.out) | exact HB.out)))); (case aL => have := LMc8.out; omega); intro v174 w11 ho hb hg hat; rw [← Ny173.out] at ho; have n0_ := Aside0.mk (blk_grown (g := gb171) (o := .cells #[.string ((rd_T42 l0 x10_1).f0), .int .i64 ((rd_T42 l0 x10_1).f1), .slice A170_2 ((rd_T42 l0 x10_1).f2).length c170_2, .slice A170_3 ((rd_T42 l0 x10_1).f3).length c170_3] 42 (0, 0)) (by (with_reducible repeat (first | refine blk_drewN ?_ _ | refine blk_drew ?_ | refine blk_alloc ?_ _)); refine blk_put (cs := #[.string ((rd_T42 l0 x10_1).f0), .int .i64 ((rd_T42 l0 x10_1).f1), .slice A170_2 ((rd_T42 l0 x10_1).f2).length c170_2, .slice none 0 0]) ?_ 3 _ rfl; (with_reducible repeat (first | refine blk_drewN ?_ _ | refine blk_drew ?_ | refine blk_alloc ?_ _)); refine blk_put (cs := #[.string ((rd_T42 l0 x10_1).f0), .int .i64 ((rd_T42 l0 x10_1).f1), .slice none 0 0, .slice none 0 0]) ?_ 2 _ rfl; (with_reducible repeat (first | refine blk_drewN ?_ _ | refine blk_drew ?_ | refine blk_alloc ?_ _)); refine blk_put (cs := #[.string ((rd_T42 l0 x10_1).f0), .int .i64 0, .slice none 0 0, .slice none 0 0]) ?_ 1 _ rfl; (with_reducible repeat (first | refine blk_drewN ?_ _ | refine blk_drew ?_ | refine blk_alloc ?_ _)); refine blk_put (cs := #[.string (⟨#[]⟩ : ByteArray), .int .i64 0, .slice none 0 0, .slice none 0 0]) ?_ 0 _ rfl; (with_reducible repeat (first | refine blk_drewN ?_ _ | refine blk_drew ?_ | refine blk_alloc ?_ _)); exact BK171.out) hg (Kd.R_ne HO_5.out BK171.out (by decide))); have n1_ := Aside0.mk (hb); have n2_ := Aside0.mk (ho); clear BK171; clear HB; clear HO_5; have BK171 := n0_; have HB := n1_; have HO175 := n2_; clear n0_ n1_ n2_; clear ho hb hg hat))
                go_roundg k1
                case measure => have := HK1.out; omega
                case rel => exact ⟨(y173), (wrap64 (x10_1 + 1)), (by first | rfl | (simp; done) | (simp [*]; done)), H', ⟨by have := HK1.out; omega⟩, ⟨by (with_reducible repeat (first | apply Kd.R_alloc | apply Kd.R_drewN | apply Kd.R_drew)); exact HO175.out⟩, ⟨by repeat (first | (with_reducible first | exact HB.out | apply below_alloc | apply pw_below_drewN | apply below_drew1 | refine below_set ?_ GE171.out) | exact HB.out)⟩⟩
              · rw [if_neg c8] at H
                exact absurd H (by simp)
            · replace c7 := Bool.eq_false_iff.mpr c7
              subst c7
              have H1 : (plan_Needed.l0 k1 a1 x5_1 l0 (l0.length : Int) (wrap64 (x10_1 + 1))) = some r := by rw [if_neg (show ¬ (false = true) by decide)] at H; exact H
              clear H
              have H := H1
              clear H1
              have H' := Aside0.mk H
              clear H
              have p170 : 0 ≤ (x10_1 : Int) := of_decide_eq_true (by first | (with_reducible assumption) | assumption)
              have q170 : x10_1 < (l0.length : Int) := of_decide_eq_true (by first | (with_reducible assumption) | assumption)
              obtain ⟨ad170, A170_2, c170_2, A170_3, c170_3, e170, hx170_0, hx170_1, hx170_2, hx170_3, hl170_2, hi170_2, hl170_3, hi170_3⟩ := at_T42 HR0.out x10_1 p170 q170
              cases e170
              replace hx170_0 := (HB.out.cell (World.block_lt_of_cell? w _ hx170_0)).trans hx170_0
              replace hx170_1 := (HB.out.cell (World.block_lt_of_cell? w _ hx170_1)).trans hx170_1
              replace hx170_2 := (HB.out.cell (World.block_lt_of_cell? w _ hx170_2)).trans hx170_2
              replace hx170_3 := (HB.out.cell (World.block_lt_of_cell? w _ hx170_3)).trans hx170_3
              have HR170_2 := Aside0.mk hi170_2
              have HC170_2 := Aside0.mk hl170_2
              clear hi170_2 hl170_2
              have HR170_3 := Aside0.mk hi170_3
              have HC170_3 := Aside0.mk hl170_3
              clear hi170_3 hl170_3
              replace p170 := eq_true p170
              replace q170 := eq_true q170
              go_wp2_with (first | ((with_reducible refine gate_dst (N := 7) rfl ?_); refine box_event ?hg (N := 7) ?hd (cs := #[.string (⟨#[]⟩ : ByteArray), .int .i64 0, .slice none 0 0, .slice none 0 0]) (t := 42) ?hr ?_; (case hd => rfl); (case hg => rfl); (case hr => first | (go_simp; done) | (go_simp; rfl)); intro gb171 hg w12 hbox hb; have n0_ := Aside0.mk (Kd.R_below (by (with_reducible repeat (first | apply Kd.R_alloc | apply Kd.R_drewN | apply Kd.R_drew)); exact HO_5.out) hb); have n1_ := Aside0.mk (below_step (by repeat (first | (with_reducible first | exact HB.out | apply below_alloc | apply pw_below_drewN | apply below_drew1) | exact HB.out)) hb); have n2_ := Aside0.mk (hbox); have n3_ := Aside0.mk ((by rw [hg]; exact (below_size (by repeat (first | (with_reducible first | exact HB.out | apply below_alloc | apply pw_below_drewN | apply below_drew1) | exact HB.out))) : w.heap.size ≤ gb171)); have n4_ := Aside0.mk ((by rw [hg]; exact (below_size (by repeat (first | (with_reducible first | exact HB.out | apply below_alloc | apply pw_below_drewN | apply below_drew1) | exact HB.out))) : w.heap.size ≤ gb171)); clear HO_5; clear HB; have HO_5 := n0_; have HB := n1_; have BK171 := n2_; have GW171 := n3_; have GE171 := n4_; clear n0_ n1_ n2_ n3_ n4_; clear hb hbox hg; have hcz13_0 : w12.cell? ⟨gb171, 0, none⟩ = some (.string (⟨#[]⟩ : ByteArray)) := (blk_cell BK171.out 0).trans rfl; have hcz13_1 : w12.cell? ⟨gb171, 1, none⟩ = some (.int .i64 0) := (blk_cell BK171.out 1).trans rfl; have hcz13_2 : w12.cell? ⟨gb171, 2, none⟩ = some (.slice none 0 0) := (blk_cell BK171.out 2).trans rfl; have hcz13_3 : w12.cell? ⟨gb171, 3, none⟩ = some (.slice none 0 0) := (blk_cell BK171.out 3).trans rfl; have hfz13_0 := blk_frozen BK171.out 0; have hfz13_1 := blk_frozen BK171.out 1; have hfz13_2 := blk_frozen BK171.out 2; have hfz13_3 := blk_frozen BK171.out 3) | ((with_reducible refine gate_callee (f := 27) rfl ?_); refine goesL_ (some 17) rfl rfl Tryd.func27 (by kernel_rfl) rfl #[.slice A170_2 ((rd_T42 l0 x10_1).f2).length c170_2, .string a1] rfl (by (try simp only [List.map_toArray, List.map_cons, List.map_nil]); first | done | rfl | (simp only [List.length_drop, List.length_take]; rfl)) ?_; (with_reducible refine (slices_Contains_string_string.calls k1 _ _ ((rd_T42 l0 x10_1).f2) a1 false _ ?side1 ?side2 A6.out).mono ?_); (case side1 => exact Kd.C_below HR170_2.out (by repeat (first | (with_reducible first | exact HB.out | apply below_alloc | apply pw_below_drewN | apply below_drew1 | refine below_set ?_ GE171.out) | exact HB.out))); (case side2 => exact HC170_2.out); rintro e w' ⟨rfl, ⟨nd, rfl⟩⟩; refine ⟨_, rfl, ?_⟩))
              go_roundg k1
              case measure => have := HK1.out; omega
              case rel => exact ⟨(x5_1), (wrap64 (x10_1 + 1)), (by first | rfl | (simp; done) | (simp [*]; done)), H', ⟨by have := HK1.out; omega⟩, ⟨by (with_reducible repeat (first | apply Kd.R_alloc | apply Kd.R_drewN | apply Kd.R_drew)); exact Kd.R_mono (Kd.R_far (p := ⟨gb171, 3, none⟩) (Kd.R_far (p := ⟨gb171, 2, none⟩) (Kd.R_far (p := ⟨gb171, 1, none⟩) (Kd.R_far (p := ⟨gb171, 0, none⟩) (Kd.R_types HO_5.out BK171.out (by decide)) (fun _ hk => hk.2) (.string ((rd_T42 l0 x10_1).f0))) (fun _ hk => hk.2) (.int .i64 ((rd_T42 l0 x10_1).f1))) (fun _ hk => hk.2) (.slice A170_2 ((rd_T42 l0 x10_1).f2).length c170_2)) (fun _ hk => hk.2) (.slice A170_3 ((rd_T42 l0 x10_1).f3).length c170_3)) (fun _ hk => trivial)⟩, ⟨by repeat (first | (with_reducible first | exact HB.out | apply below_alloc | apply pw_below_drewN | apply below_drew1 | refine below_set ?_ GE171.out) | exact HB.out)⟩⟩
          · rw [if_neg c5] at H
            exact absurd H (by simp)
        · rw [if_neg c4] at H
          exact absurd H (by simp)
      · rw [if_neg c3] at H
        have c3b0 : decide (x10_1 < (l0.length : Int)) = false := decide_eq_false c3
        clear c3
        obtain rfl := Option.some.inj H
        go_wp2
        go_ret
        exact ⟨_, by first | rfl | (simp [errW_none, errW_some] <;> rfl) | (simp [*, errW_none, errW_some] <;> rfl), by (with_reducible repeat (first | apply Kd.R_alloc | apply Kd.R_drewN | apply Kd.R_drew)); exact HO_5.out, by repeat (first | (with_reducible first | exact HB.out | apply below_alloc | apply pw_below_drewN | apply below_drew1) | exact HB.out)⟩

/-! ### monticuleref28_Needed: function 16 -/
def monticuleref28_Needed.l0 : Nat → List (S42) → ByteArray → List ByteArray → Int → Option (List ByteArray)
  | 0, _, _, _, _ => none
  | k + 1, x0, x1, x5, x6 => if x6 < (x0.length : Int) then (if 0 ≤ x6 then ((monticuleref06_In.f k ((rd_T42 x0 x6).f2) x1).bind fun t177 => (if t177 = true then (if x5.length < 8796093022208 then (monticuleref28_Needed.l0 k x0 x1 (x5 ++ [(rd_T42 x0 x6).f0]) (wrap64 (x6 + 1))) else (none)) else (monticuleref28_Needed.l0 k x0 x1 x5 (wrap64 (x6 + 1))))) else (none)) else (some x5)
def monticuleref28_Needed.f (k : Nat) (l0 : List (S42)) (a1 : ByteArray) : Option (List ByteArray) := monticuleref28_Needed.l0 k l0 a1 ([] : List ByteArray) 0
theorem monticuleref28_Needed.mono_l : ∀ k, (∀ y0 y1 y2 y3, LeO (monticuleref28_Needed.l0 k y0 y1 y2 y3) (monticuleref28_Needed.l0 (k + 1) y0 y1 y2 y3))
  | 0 => fun _ _ _ _ r h => by simp [monticuleref28_Needed.l0] at h
  | k + 1 => by
    have ih0 := monticuleref28_Needed.mono_l k
    · intro y0 y1 y2 y3
      unfold monticuleref28_Needed.l0
      repeat' first
      | (with_reducible exact ih0 _ _ _ _)
      | (with_reducible exact monticuleref06_In.mono _ _ _)
      | (with_reducible exact LeO.refl _)
      | (with_reducible exact LeO.none _)
      | (with_reducible refine LeO.ite ?_ ?_)
      | (with_reducible refine LeO.bind ?_ (fun _ => ?_))
      | exact ih0 _ _ _ _
      | exact monticuleref06_In.mono _ _ _
      | exact LeO.none _
      | refine LeO.ite ?_ ?_
      | refine LeO.bind ?_ (fun _ => ?_)
theorem monticuleref28_Needed.mono : ∀ a0 a1 k, LeO (monticuleref28_Needed.f k a0 a1) (monticuleref28_Needed.f (k + 1) a0 a1) := by
  intro a0 a1 k
  have ih0 := monticuleref28_Needed.mono_l k
  unfold monticuleref28_Needed.f
  repeat' first
      | (with_reducible exact ih0 _ _ _ _)
      | (with_reducible exact monticuleref06_In.mono _ _ _)
      | (with_reducible exact LeO.refl _)
      | (with_reducible exact LeO.none _)
      | (with_reducible refine LeO.ite ?_ ?_)
      | (with_reducible refine LeO.bind ?_ (fun _ => ?_))
      | exact ih0 _ _ _ _
      | exact monticuleref06_In.mono _ _ _
      | exact LeO.none _
      | refine LeO.ite ?_ ?_
      | refine LeO.bind ?_ (fun _ => ?_)
set_option maxHeartbeats 8000000 in
set_option maxRecDepth 100000 in
theorem monticuleref28_Needed.calls (k : Nat) (A0 : Option Addr) (c0 : Nat) (l0 : List (S42)) (a1 : ByteArray) (r : List ByteArray) (w : World) (hr0 : Kd.C k42 w A0 l0.length l0) (hc0 : l0.length ≤ c0) (h : monticuleref28_Needed.f k l0 a1 = some r) :
    Calls Tryd.prog 16 #[.slice A0 l0.length c0, .string a1] w fun e w' => ∃ v0_ : Value, e = .returned (v0_) ∧ Kd.R Kd.string 9 w' w.heap.size (fun _ => True) v0_ r ∧ Below w.heap.size w w' := by
  have HR0 := Aside0.mk hr0
  have HC0 := Aside0.mk hc0
  clear hr0 hc0
  have HB := Aside0.mk (Below.refl w.heap.size w)
  have H : (monticuleref28_Needed.l0 k l0 a1 ([] : List ByteArray) 0) = some r := h
  clear h
  have H' := Aside0.mk H
  clear H
  go_enter Tryd.func16, Tryd.ntmps16
  go_wp2
  go_loopg [5, 6] k (fun kq v5 v6 w' => ∃ (x5_1 : List ByteArray) (x6_1 : Int), v6 = .int .i64 x6_1 ∧ Aside0 (monticuleref28_Needed.l0 kq l0 a1 x5_1 x6_1 = some r) ∧ Aside0 (kq ≤ k) ∧ Aside0 (Kd.R Kd.string 9 w' w.heap.size (fun _ => True) v5 x5_1) ∧ Aside0 (Below w.heap.size w w'))
  case atStart => exact ⟨(([] : List ByteArray)), (0), (by first | rfl | (simp; done) | (simp [*]; done)), H', ⟨Nat.le_refl _⟩, ⟨by first | exact Kd.R_nil _ _ _ _ _ | exact Kd.N_nil _ _ _ _ _ | exact Kd.V_nil _ _ _ _ _ | exact Kd.Q_nil _ _ _ _ _ | exact Kd.S_nil _ _ _ _ _⟩, ⟨by repeat (first | (with_reducible first | exact HB.out | apply below_alloc | apply pw_below_drewN | apply below_drew1) | exact HB.out)⟩⟩
  case round =>
    clear H'
    try clear c1
    try clear p2
    obtain ⟨x5_1, x6_1, rfl, HA, HK1, HO_5, HB⟩ := hrel
    cases gk with
    | zero => exact absurd HA.out (by simp [monticuleref28_Needed.l0])
    | succ k1 =>
      have H := HA.out
      clear HA
      simp only [monticuleref28_Needed.l0] at H
      by_cases c3 : x6_1 < (l0.length : Int)
      · rw [if_pos c3] at H
        have c3b0 : decide (x6_1 < (l0.length : Int)) = true := decide_eq_true c3
        clear c3
        by_cases c4 : 0 ≤ x6_1
        · rw [if_pos c4] at H
          have c4b0 : decide (0 ≤ x6_1) = true := decide_eq_true c4
          clear c4
          replace H := Option.bind_eq_some_iff.mp H
          obtain ⟨t177, A50, H⟩ := H
          replace H : (if t177 = true then (if x5_1.length < 8796093022208 then (monticuleref28_Needed.l0 k1 l0 a1 (x5_1 ++ [(rd_T42 l0 x6_1).f0]) (wrap64 (x6_1 + 1))) else (none)) else (monticuleref28_Needed.l0 k1 l0 a1 x5_1 (wrap64 (x6_1 + 1)))) = some r := H
          have A5 := Aside0.mk A50
          clear A50
          by_cases c6 : t177 = true
          · subst c6
            have H1 : (if x5_1.length < 8796093022208 then (monticuleref28_Needed.l0 k1 l0 a1 (x5_1 ++ [(rd_T42 l0 x6_1).f0]) (wrap64 (x6_1 + 1))) else (none)) = some r := by rw [if_pos rfl] at H; exact H
            clear H
            have H := H1
            clear H1
            by_cases c7 : x5_1.length < 8796093022208
            · rw [if_pos c7] at H
              have LMc7 := Aside0.mk c7
              clear c7
              obtain ⟨y179, hy179⟩ : ∃ y_ : List ByteArray, y_ = (x5_1 ++ [(rd_T42 l0 x6_1).f0]) := ⟨_, rfl⟩
              replace H : (monticuleref28_Needed.l0 k1 l0 a1 y179 (wrap64 (x6_1 + 1))) = some r := by first | (rw [hy179]; with_reducible exact H) | (have H2_ := (Option.bind_some _ _).symm.trans H; rw [hy179]; with_reducible exact H2_) | (have H2_ := (Option.bind_some _ _).symm.trans H; with_reducible exact H2_) | with_reducible exact H | (rw [hy179]; exact H) | exact H
              have Ny179 := Aside0.mk hy179
              clear hy179
              have H' := Aside0.mk H
              clear H
              have p176 : 0 ≤ (x6_1 : Int) := of_decide_eq_true (by first | (with_reducible assumption) | assumption)
              have q176 : x6_1 < (l0.length : Int) := of_decide_eq_true (by first | (with_reducible assumption) | assumption)
              obtain ⟨ad176, A176_2, c176_2, A176_3, c176_3, e176, hx176_0, hx176_1, hx176_2, hx176_3, hl176_2, hi176_2, hl176_3, hi176_3⟩ := at_T42 HR0.out x6_1 p176 q176
              cases e176
              replace hx176_0 := (HB.out.cell (World.block_lt_of_cell? w _ hx176_0)).trans hx176_0
              replace hx176_1 := (HB.out.cell (World.block_lt_of_cell? w _ hx176_1)).trans hx176_1
              replace hx176_2 := (HB.out.cell (World.block_lt_of_cell? w _ hx176_2)).trans hx176_2
              replace hx176_3 := (HB.out.cell (World.block_lt_of_cell? w _ hx176_3)).trans hx176_3
              have HR176_2 := Aside0.mk hi176_2
              have HC176_2 := Aside0.mk hl176_2
              clear hi176_2 hl176_2
              have HR176_3 := Aside0.mk hi176_3
              have HC176_3 := Aside0.mk hl176_3
              clear hi176_3 hl176_3
              replace p176 := eq_true p176
              replace q176 := eq_true q176
              go_wp2_with (first | ((with_reducible refine gate_callee (f := 11) rfl ?_); refine goesL_ (some 19) rfl rfl Tryd.func11 (by kernel_rfl) rfl #[.slice A176_2 ((rd_T42 l0 x6_1).f2).length c176_2, .string a1] rfl (by (try simp only [List.map_toArray, List.map_cons, List.map_nil]); first | done | rfl | (simp only [List.length_drop, List.length_take]; rfl)) ?_; (with_reducible refine (monticuleref06_In.calls k1 _ _ ((rd_T42 l0 x6_1).f2) a1 true _ ?side1 ?side2 A5.out).mono ?_); (case side1 => repeat (first | exact (Kd.C_below HR176_2.out HB.out) | (with_reducible refine Kd.C_alloc ?_ _) | (with_reducible refine Kd.C_drewN ?_ _) | (with_reducible refine Kd.C_drew ?_))); (case side2 => exact HC176_2.out); rintro e w' ⟨rfl, ⟨nd, rfl⟩⟩; refine ⟨_, rfl, ?_⟩; have p178 : 0 ≤ (x6_1 : Int) := of_decide_eq_true (by first | (with_reducible assumption) | assumption); have q178 : x6_1 < (l0.length : Int) := of_decide_eq_true (by first | (with_reducible assumption) | assumption); obtain ⟨ad178, A178_2, c178_2, A178_3, c178_3, e178, hx178_0, hx178_1, hx178_2, hx178_3, hl178_2, hi178_2, hl178_3, hi178_3⟩ := at_T42 HR0.out x6_1 p178 q178; obtain rfl : ad176 = ad178 := (by injection e178); replace hx178_0 := (HB.out.cell (World.block_lt_of_cell? w _ hx178_0)).trans hx178_0; replace hx178_1 := (HB.out.cell (World.block_lt_of_cell? w _ hx178_1)).trans hx178_1; replace hx178_2 := (HB.out.cell (World.block_lt_of_cell? w _ hx178_2)).trans hx178_2; replace hx178_3 := (HB.out.cell (World.block_lt_of_cell? w _ hx178_3)).trans hx178_3; have HR178_2 := Aside0.mk hi178_2; have HC178_2 := Aside0.mk hl178_2; clear hi178_2 hl178_2; have HR178_3 := Aside0.mk hi178_3; have HC178_3 := Aside0.mk hl178_3; clear hi178_3 hl178_3; replace p178 := eq_true p178; replace q178 := eq_true q178; have ea_ := Option.some.inj (hx176_2.symm.trans hx178_2); injection ea_ with ea_ en_ ec_; subst ea_; subst ec_; clear en_; have ea_ := Option.some.inj (hx176_3.symm.trans hx178_3); injection ea_ with ea_ en_ ec_; subst ea_; subst ec_; clear en_) | ((with_reducible refine gate_builtin (b := .append) (xs := #[.tmp 20, .tmp 26]) rfl ?_); at_builtin; refine Kd.R_append Kd.string (w0 := w) w.heap.size rfl (.tmp 20) (.tmp 26) 22 9 (.string ⟨#[]⟩) 16 rfl Tryd.underlying22 info9 rfl (by decide) (by omega) u5 x5_1 ((rd_T42 l0 x6_1).f0) [.string ((rd_T42 l0 x6_1).f0)] (fun _ => True) (fun _ => False) rfl rfl ?aP (fun _ hk => hk.elim) ?aF ?aO ?aB ?aS ?aL ?_; (case aP => exact rfl); (case aB => exact (by repeat (first | (with_reducible first | exact HB.out | apply below_alloc | apply pw_below_drewN | apply below_drew1) | exact HB.out))); (case aF => exact (fun _ _ => trivial)); (case aO => exact (by (with_reducible repeat (first | apply Kd.R_alloc | apply Kd.R_drewN | apply Kd.R_drew)); exact HO_5.out)); (case aS => exact (below_size (by repeat (first | (with_reducible first | exact HB.out | apply below_alloc | apply pw_below_drewN | apply below_drew1) | exact HB.out)))); (case aL => have := LMc7.out; omega); intro v180 w8 ho hb hg hat; rw [← Ny179.out] at ho; have n0_ := Aside0.mk (hb); have n1_ := Aside0.mk (ho); clear HB; clear HO_5; have HB := n0_; have HO181 := n1_; clear n0_ n1_; clear ho hb hg hat))
              go_roundg k1
              case measure => have := HK1.out; omega
              case rel => exact ⟨(y179), (wrap64 (x6_1 + 1)), (by first | rfl | (simp; done) | (simp [*]; done)), H', ⟨by have := HK1.out; omega⟩, ⟨by (with_reducible repeat (first | apply Kd.R_alloc | apply Kd.R_drewN | apply Kd.R_drew)); exact HO181.out⟩, ⟨by repeat (first | (with_reducible first | exact HB.out | apply below_alloc | apply pw_below_drewN | apply below_drew1) | exact HB.out)⟩⟩
            · rw [if_neg c7] at H
              exact absurd H (by simp)
          · replace c6 := Bool.eq_false_iff.mpr c6
            subst c6
            have H1 : (monticuleref28_Needed.l0 k1 l0 a1 x5_1 (wrap64 (x6_1 + 1))) = some r := by rw [if_neg (show ¬ (false = true) by decide)] at H; exact H
            clear H
            have H := H1
            clear H1
            have H' := Aside0.mk H
            clear H
            have p176 : 0 ≤ (x6_1 : Int) := of_decide_eq_true (by first | (with_reducible assumption) | assumption)
            have q176 : x6_1 < (l0.length : Int) := of_decide_eq_true (by first | (with_reducible assumption) | assumption)
            obtain ⟨ad176, A176_2, c176_2, A176_3, c176_3, e176, hx176_0, hx176_1, hx176_2, hx176_3, hl176_2, hi176_2, hl176_3, hi176_3⟩ := at_T42 HR0.out x6_1 p176 q176
            cases e176
            replace hx176_0 := (HB.out.cell (World.block_lt_of_cell? w _ hx176_0)).trans hx176_0
            replace hx176_1 := (HB.out.cell (World.block_lt_of_cell? w _ hx176_1)).trans hx176_1
            replace hx176_2 := (HB.out.cell (World.block_lt_of_cell? w _ hx176_2)).trans hx176_2
            replace hx176_3 := (HB.out.cell (World.block_lt_of_cell? w _ hx176_3)).trans hx176_3
            have HR176_2 := Aside0.mk hi176_2
            have HC176_2 := Aside0.mk hl176_2
            clear hi176_2 hl176_2
            have HR176_3 := Aside0.mk hi176_3
            have HC176_3 := Aside0.mk hl176_3
            clear hi176_3 hl176_3
            replace p176 := eq_true p176
            replace q176 := eq_true q176
            go_wp2_with (first | ((with_reducible refine gate_callee (f := 11) rfl ?_); refine goesL_ (some 19) rfl rfl Tryd.func11 (by kernel_rfl) rfl #[.slice A176_2 ((rd_T42 l0 x6_1).f2).length c176_2, .string a1] rfl (by (try simp only [List.map_toArray, List.map_cons, List.map_nil]); first | done | rfl | (simp only [List.length_drop, List.length_take]; rfl)) ?_; (with_reducible refine (monticuleref06_In.calls k1 _ _ ((rd_T42 l0 x6_1).f2) a1 false _ ?side1 ?side2 A5.out).mono ?_); (case side1 => repeat (first | exact (Kd.C_below HR176_2.out HB.out) | (with_reducible refine Kd.C_alloc ?_ _) | (with_reducible refine Kd.C_drewN ?_ _) | (with_reducible refine Kd.C_drew ?_))); (case side2 => exact HC176_2.out); rintro e w' ⟨rfl, ⟨nd, rfl⟩⟩; refine ⟨_, rfl, ?_⟩))
            go_roundg k1
            case measure => have := HK1.out; omega
            case rel => exact ⟨(x5_1), (wrap64 (x6_1 + 1)), (by first | rfl | (simp; done) | (simp [*]; done)), H', ⟨by have := HK1.out; omega⟩, ⟨by (with_reducible repeat (first | apply Kd.R_alloc | apply Kd.R_drewN | apply Kd.R_drew)); exact HO_5.out⟩, ⟨by repeat (first | (with_reducible first | exact HB.out | apply below_alloc | apply pw_below_drewN | apply below_drew1) | exact HB.out)⟩⟩
        · rw [if_neg c4] at H
          exact absurd H (by simp)
      · rw [if_neg c3] at H
        have c3b0 : decide (x6_1 < (l0.length : Int)) = false := decide_eq_false c3
        clear c3
        obtain rfl := Option.some.inj H
        go_wp2
        go_ret
        exact ⟨_, by first | rfl | (simp [errW_none, errW_some] <;> rfl) | (simp [*, errW_none, errW_some] <;> rfl), by (with_reducible repeat (first | apply Kd.R_alloc | apply Kd.R_drewN | apply Kd.R_drew)); exact HO_5.out, by repeat (first | (with_reducible first | exact HB.out | apply below_alloc | apply pw_below_drewN | apply below_drew1) | exact HB.out)⟩

/-! ### monticuleref28_Closed: function 18 -/
mutual
def monticuleref28_Closed.l0 : Nat → List (S42) → List ByteArray → Int → Option (Bool)
  | 0, _, _, _ => none
  | k + 1, x0, x3, x4 => if x4 < (x0.length : Int) then (if 0 ≤ x4 then (if x3.length < 8796093022208 then (monticuleref28_Closed.l0 k x0 (x3 ++ [(rd_T42 x0 x4).f0]) (wrap64 (x4 + 1))) else (none)) else (none)) else (monticuleref28_Closed.l1 k x0 x3 0)
def monticuleref28_Closed.l1 : Nat → List (S42) → List ByteArray → Int → Option (Bool)
  | 0, _, _, _ => none
  | k + 1, x0, x3, x5 => if x5 < (x0.length : Int) then (monticuleref28_Closed.l2 k x0 x3 x5 0) else (some true)
def monticuleref28_Closed.l2 : Nat → List (S42) → List ByteArray → Int → Int → Option (Bool)
  | 0, _, _, _, _ => none
  | k + 1, x0, x3, x5, x6 => if 0 ≤ x5 then (if x5 < (x0.length : Int) then (if x6 < (((rd_T42 x0 x5).f2).length : Int) then (if 0 ≤ x6 then ((monticuleref06_In.f k x3 (rdOf ByteArray.empty ((rd_T42 x0 x5).f2) x6)).bind fun t189 => (if t189 = true then (monticuleref28_Closed.l2 k x0 x3 x5 (wrap64 (x6 + 1))) else (some false))) else (none)) else (monticuleref28_Closed.l1 k x0 x3 (wrap64 (x5 + 1)))) else (none)) else (none)
end
def monticuleref28_Closed.f (k : Nat) (l0 : List (S42)) : Option (Bool) := monticuleref28_Closed.l0 k l0 ([] : List ByteArray) 0
theorem monticuleref28_Closed.mono_l : ∀ k, (∀ y0 y1 y2, LeO (monticuleref28_Closed.l0 k y0 y1 y2) (monticuleref28_Closed.l0 (k + 1) y0 y1 y2)) ∧ (∀ y0 y1 y2, LeO (monticuleref28_Closed.l1 k y0 y1 y2) (monticuleref28_Closed.l1 (k + 1) y0 y1 y2)) ∧ (∀ y0 y1 y2 y3, LeO (monticuleref28_Closed.l2 k y0 y1 y2 y3) (monticuleref28_Closed.l2 (k + 1) y0 y1 y2 y3))
  | 0 => ⟨fun _ _ _ r h => by simp [monticuleref28_Closed.l0] at h, fun _ _ _ r h => by simp [monticuleref28_Closed.l1] at h, fun _ _ _ _ r h => by simp [monticuleref28_Closed.l2] at h⟩
  | k + 1 => by
    obtain ⟨ih0, ih1, ih2⟩ := monticuleref28_Closed.mono_l k
    refine ⟨?_, ?_, ?_⟩
    · intro y0 y1 y2
      unfold monticuleref28_Closed.l0
      repeat' first
      | (with_reducible exact ih0 _ _ _)
      | (with_reducible exact ih1 _ _ _)
      | (with_reducible exact ih2 _ _ _ _)
      | (with_reducible exact monticuleref06_In.mono _ _ _)
      | (with_reducible exact LeO.refl _)
      | (with_reducible exact LeO.none _)
      | (with_reducible refine LeO.ite ?_ ?_)
      | (with_reducible refine LeO.bind ?_ (fun _ => ?_))
      | exact ih0 _ _ _
      | exact ih1 _ _ _
      | exact ih2 _ _ _ _
      | exact monticuleref06_In.mono _ _ _
      | exact LeO.none _
      | refine LeO.ite ?_ ?_
      | refine LeO.bind ?_ (fun _ => ?_)
    · intro y0 y1 y2
      unfold monticuleref28_Closed.l1
      repeat' first
      | (with_reducible exact ih0 _ _ _)
      | (with_reducible exact ih1 _ _ _)
      | (with_reducible exact ih2 _ _ _ _)
      | (with_reducible exact monticuleref06_In.mono _ _ _)
      | (with_reducible exact LeO.refl _)
      | (with_reducible exact LeO.none _)
      | (with_reducible refine LeO.ite ?_ ?_)
      | (with_reducible refine LeO.bind ?_ (fun _ => ?_))
      | exact ih0 _ _ _
      | exact ih1 _ _ _
      | exact ih2 _ _ _ _
      | exact monticuleref06_In.mono _ _ _
      | exact LeO.none _
      | refine LeO.ite ?_ ?_
      | refine LeO.bind ?_ (fun _ => ?_)
    · intro y0 y1 y2 y3
      unfold monticuleref28_Closed.l2
      repeat' first
      | (with_reducible exact ih0 _ _ _)
      | (with_reducible exact ih1 _ _ _)
      | (with_reducible exact ih2 _ _ _ _)
      | (with_reducible exact monticuleref06_In.mono _ _ _)
      | (with_reducible exact LeO.refl _)
      | (with_reducible exact LeO.none _)
      | (with_reducible refine LeO.ite ?_ ?_)
      | (with_reducible refine LeO.bind ?_ (fun _ => ?_))
      | exact ih0 _ _ _
      | exact ih1 _ _ _
      | exact ih2 _ _ _ _
      | exact monticuleref06_In.mono _ _ _
      | exact LeO.none _
      | refine LeO.ite ?_ ?_
      | refine LeO.bind ?_ (fun _ => ?_)
theorem monticuleref28_Closed.mono : ∀ a0 k, LeO (monticuleref28_Closed.f k a0) (monticuleref28_Closed.f (k + 1) a0) := by
  intro a0 k
  obtain ⟨ih0, ih1, ih2⟩ := monticuleref28_Closed.mono_l k
  unfold monticuleref28_Closed.f
  repeat' first
      | (with_reducible exact ih0 _ _ _)
      | (with_reducible exact ih1 _ _ _)
      | (with_reducible exact ih2 _ _ _ _)
      | (with_reducible exact monticuleref06_In.mono _ _ _)
      | (with_reducible exact LeO.refl _)
      | (with_reducible exact LeO.none _)
      | (with_reducible refine LeO.ite ?_ ?_)
      | (with_reducible refine LeO.bind ?_ (fun _ => ?_))
      | exact ih0 _ _ _
      | exact ih1 _ _ _
      | exact ih2 _ _ _ _
      | exact monticuleref06_In.mono _ _ _
      | exact LeO.none _
      | refine LeO.ite ?_ ?_
      | refine LeO.bind ?_ (fun _ => ?_)
set_option maxHeartbeats 8000000 in
set_option maxRecDepth 100000 in
theorem monticuleref28_Closed.calls (k : Nat) (A0 : Option Addr) (c0 : Nat) (l0 : List (S42)) (r : Bool) (w : World) (hr0 : Kd.C k42 w A0 l0.length l0) (hc0 : l0.length ≤ c0) (h : monticuleref28_Closed.f k l0 = some r) :
    Calls Tryd.prog 18 #[.slice A0 l0.length c0] w fun e w' => e = .returned (.bool r) ∧ Below w.heap.size w w' := by
  have HR0 := Aside0.mk hr0
  have HC0 := Aside0.mk hc0
  clear hr0 hc0
  have HB := Aside0.mk (Below.refl w.heap.size w)
  have H : (monticuleref28_Closed.l0 k l0 ([] : List ByteArray) 0) = some r := h
  clear h
  have H' := Aside0.mk H
  clear H
  go_enter Tryd.func18, Tryd.ntmps18
  go_wp2
  go_loopg [3, 4] k (fun kq v3 v4 w' => ∃ (x3_1 : List ByteArray) (x4_1 : Int), v4 = .int .i64 x4_1 ∧ Aside0 (monticuleref28_Closed.l0 kq l0 x3_1 x4_1 = some r) ∧ Aside0 (kq ≤ k) ∧ Aside0 (Kd.R Kd.string 9 w' w.heap.size (fun _ => True) v3 x3_1) ∧ Aside0 (Below w.heap.size w w'))
  case atStart => exact ⟨(([] : List ByteArray)), (0), (by first | rfl | (simp; done) | (simp [*]; done)), H', ⟨Nat.le_refl _⟩, ⟨by first | exact Kd.R_nil _ _ _ _ _ | exact Kd.N_nil _ _ _ _ _ | exact Kd.V_nil _ _ _ _ _ | exact Kd.Q_nil _ _ _ _ _ | exact Kd.S_nil _ _ _ _ _⟩, ⟨by repeat (first | (with_reducible first | exact HB.out | apply below_alloc | apply pw_below_drewN | apply below_drew1) | exact HB.out)⟩⟩
  case round =>
    clear H'
    try clear c1
    obtain ⟨x3_1, x4_1, rfl, HA, HK1, HO_3, HB⟩ := hrel
    cases gk with
    | zero => exact absurd HA.out (by simp [monticuleref28_Closed.l0])
    | succ k1 =>
      have H := HA.out
      clear HA
      simp only [monticuleref28_Closed.l0] at H
      by_cases c2 : x4_1 < (l0.length : Int)
      · rw [if_pos c2] at H
        have c2b0 : decide (x4_1 < (l0.length : Int)) = true := decide_eq_true c2
        clear c2
        by_cases c3 : 0 ≤ x4_1
        · rw [if_pos c3] at H
          have c3b0 : decide (0 ≤ x4_1) = true := decide_eq_true c3
          clear c3
          by_cases c4 : x3_1.length < 8796093022208
          · rw [if_pos c4] at H
            have LMc4 := Aside0.mk c4
            clear c4
            obtain ⟨y183, hy183⟩ : ∃ y_ : List ByteArray, y_ = (x3_1 ++ [(rd_T42 l0 x4_1).f0]) := ⟨_, rfl⟩
            replace H : (monticuleref28_Closed.l0 k1 l0 y183 (wrap64 (x4_1 + 1))) = some r := by first | (rw [hy183]; with_reducible exact H) | (have H2_ := (Option.bind_some _ _).symm.trans H; rw [hy183]; with_reducible exact H2_) | (have H2_ := (Option.bind_some _ _).symm.trans H; with_reducible exact H2_) | with_reducible exact H | (rw [hy183]; exact H) | exact H
            have Ny183 := Aside0.mk hy183
            clear hy183
            have H' := Aside0.mk H
            clear H
            have p182 : 0 ≤ (x4_1 : Int) := of_decide_eq_true (by first | (with_reducible assumption) | assumption)
            have q182 : x4_1 < (l0.length : Int) := of_decide_eq_true (by first | (with_reducible assumption) | assumption)
            obtain ⟨ad182, A182_2, c182_2, A182_3, c182_3, e182, hx182_0, hx182_1, hx182_2, hx182_3, hl182_2, hi182_2, hl182_3, hi182_3⟩ := at_T42 HR0.out x4_1 p182 q182
            cases e182
            replace hx182_0 := (HB.out.cell (World.block_lt_of_cell? w _ hx182_0)).trans hx182_0
            replace hx182_1 := (HB.out.cell (World.block_lt_of_cell? w _ hx182_1)).trans hx182_1
            replace hx182_2 := (HB.out.cell (World.block_lt_of_cell? w _ hx182_2)).trans hx182_2
            replace hx182_3 := (HB.out.cell (World.block_lt_of_cell? w _ hx182_3)).trans hx182_3
            have HR182_2 := Aside0.mk hi182_2
            have HC182_2 := Aside0.mk hl182_2
            clear hi182_2 hl182_2
            have HR182_3 := Aside0.mk hi182_3
            have HC182_3 := Aside0.mk hl182_3
            clear hi182_3 hl182_3
            replace p182 := eq_true p182
            replace q182 := eq_true q182
            go_wp2_with (first | ((with_reducible refine gate_builtin (b := .append) (xs := #[.tmp 13, .tmp 19]) rfl ?_); at_builtin; refine Kd.R_append Kd.string (w0 := w) w.heap.size rfl (.tmp 13) (.tmp 19) 22 9 (.string ⟨#[]⟩) 16 rfl Tryd.underlying22 info9 rfl (by decide) (by omega) u3 x3_1 ((rd_T42 l0 x4_1).f0) [.string ((rd_T42 l0 x4_1).f0)] (fun _ => True) (fun _ => False) rfl rfl ?aP (fun _ hk => hk.elim) ?aF ?aO ?aB ?aS ?aL ?_; (case aP => exact rfl); (case aB => exact (by repeat (first | (with_reducible first | exact HB.out | apply below_alloc | apply pw_below_drewN | apply below_drew1) | exact HB.out))); (case aF => exact (fun _ _ => trivial)); (case aO => exact (by (with_reducible repeat (first | apply Kd.R_alloc | apply Kd.R_drewN | apply Kd.R_drew)); exact HO_3.out)); (case aS => exact (below_size (by repeat (first | (with_reducible first | exact HB.out | apply below_alloc | apply pw_below_drewN | apply below_drew1) | exact HB.out)))); (case aL => have := LMc4.out; omega); intro v184 w5 ho hb hg hat; rw [← Ny183.out] at ho; have n0_ := Aside0.mk (hb); have n1_ := Aside0.mk (ho); clear HB; clear HO_3; have HB := n0_; have HO185 := n1_; clear n0_ n1_; clear ho hb hg hat))
            go_roundg k1
            case measure => have := HK1.out; omega
            case rel => exact ⟨(y183), (wrap64 (x4_1 + 1)), (by first | rfl | (simp; done) | (simp [*]; done)), H', ⟨by have := HK1.out; omega⟩, ⟨by (with_reducible repeat (first | apply Kd.R_alloc | apply Kd.R_drewN | apply Kd.R_drew)); exact HO185.out⟩, ⟨by repeat (first | (with_reducible first | exact HB.out | apply below_alloc | apply pw_below_drewN | apply below_drew1) | exact HB.out)⟩⟩
          · rw [if_neg c4] at H
            exact absurd H (by simp)
        · rw [if_neg c3] at H
          exact absurd H (by simp)
      · rw [if_neg c2] at H
        have c2b0 : decide (x4_1 < (l0.length : Int)) = false := decide_eq_false c2
        clear c2
        have H' := Aside0.mk H
        clear H
        go_wp2
        go_loopg [5] k1 (fun kq v5 w' => ∃ (x5_2 : Int), v5 = .int .i64 x5_2 ∧ Aside0 (monticuleref28_Closed.l1 kq l0 x3_1 x5_2 = some r) ∧ Aside0 (kq ≤ k1) ∧ Aside0 (Kd.R Kd.string 9 w' w.heap.size (fun _ => True) u3 x3_1) ∧ Aside0 (Below w.heap.size w w'))
        case atStart => exact ⟨(0), (by first | rfl | (simp; done) | (simp [*]; done)), H', ⟨Nat.le_refl _⟩, ⟨by (with_reducible repeat (first | apply Kd.R_alloc | apply Kd.R_drewN | apply Kd.R_drew)); exact HO_3.out⟩, ⟨by repeat (first | (with_reducible first | exact HB.out | apply below_alloc | apply pw_below_drewN | apply below_drew1) | exact HB.out)⟩⟩
        case round =>
          clear H'
          try clear c1
          try clear p1
          try clear q1
          try clear hx1
          try clear c2
          try clear c2b0
          try clear p2
          try clear c3
          try clear c3b0
          try clear c4
          try clear hx182_0
          try clear hx182_1
          try clear hx182_2
          try clear hx182_3
          try clear p182
          try clear q182
          obtain ⟨x5_2, rfl, HA, HK2, HO_3, HB⟩ := hrel
          cases gk with
          | zero => exact absurd HA.out (by simp [monticuleref28_Closed.l1])
          | succ k2 =>
            have H := HA.out
            clear HA
            simp only [monticuleref28_Closed.l1] at H
            by_cases c6 : x5_2 < (l0.length : Int)
            · rw [if_pos c6] at H
              have c6b0 : decide (x5_2 < (l0.length : Int)) = true := decide_eq_true c6
              clear c6
              have H' := Aside0.mk H
              clear H
              go_wp2
              go_loopg [6] k2 (fun kq v6 w' => ∃ (x6_3 : Int), v6 = .int .i64 x6_3 ∧ Aside0 (monticuleref28_Closed.l2 kq l0 x3_1 x5_2 x6_3 = some r) ∧ Aside0 (kq ≤ k2) ∧ Aside0 (Kd.R Kd.string 9 w' w.heap.size (fun _ => True) u3 x3_1) ∧ Aside0 (Below w.heap.size w w'))
              case atStart => exact ⟨(0), (by first | rfl | (simp; done) | (simp [*]; done)), H', ⟨Nat.le_refl _⟩, ⟨by (with_reducible repeat (first | apply Kd.R_alloc | apply Kd.R_drewN | apply Kd.R_drew)); exact HO_3.out⟩, ⟨by repeat (first | (with_reducible first | exact HB.out | apply below_alloc | apply pw_below_drewN | apply below_drew1) | exact HB.out)⟩⟩
              case round =>
                clear H'
                try clear c1
                try clear p1
                try clear q1
                try clear hx1
                try clear c2
                try clear c2b0
                try clear p2
                try clear c3
                try clear c3b0
                try clear c4
                try clear c6
                try clear c6b0
                try clear p6
                try clear hx182_0
                try clear hx182_1
                try clear hx182_2
                try clear hx182_3
                try clear p1
                try clear p182
                try clear p2
                try clear q1
                try clear q182
                obtain ⟨x6_3, rfl, HA, HK3, HO_3, HB⟩ := hrel
                cases gk with
                | zero => exact absurd HA.out (by simp [monticuleref28_Closed.l2])
                | succ k3 =>
                  have H := HA.out
                  clear HA
                  simp only [monticuleref28_Closed.l2] at H
                  by_cases c7 : 0 ≤ x5_2
                  · rw [if_pos c7] at H
                    have c7b0 : decide (0 ≤ x5_2) = true := decide_eq_true c7
                    clear c7
                    by_cases c8 : x5_2 < (l0.length : Int)
                    · rw [if_pos c8] at H
                      have c8b0 : decide (x5_2 < (l0.length : Int)) = true := decide_eq_true c8
                      clear c8
                      by_cases c9 : x6_3 < (((rd_T42 l0 x5_2).f2).length : Int)
                      · rw [if_pos c9] at H
                        have c9b0 : decide (x6_3 < (((rd_T42 l0 x5_2).f2).length : Int)) = true := decide_eq_true c9
                        clear c9
                        by_cases c10 : 0 ≤ x6_3
                        · rw [if_pos c10] at H
                          have c10b0 : decide (0 ≤ x6_3) = true := decide_eq_true c10
                          clear c10
                          replace H := Option.bind_eq_some_iff.mp H
                          obtain ⟨t189, A110, H⟩ := H
                          replace H : (if t189 = true then (monticuleref28_Closed.l2 k3 l0 x3_1 x5_2 (wrap64 (x6_3 + 1))) else (some false)) = some r := H
                          have A11 := Aside0.mk A110
                          clear A110
                          by_cases c12 : t189 = true
                          · subst c12
                            have H1 : (monticuleref28_Closed.l2 k3 l0 x3_1 x5_2 (wrap64 (x6_3 + 1))) = some r := by rw [if_pos rfl] at H; exact H
                            clear H
                            have H := H1
                            clear H1
                            have H' := Aside0.mk H
                            clear H
                            have p186 : 0 ≤ (x5_2 : Int) := of_decide_eq_true (by first | (with_reducible assumption) | assumption)
                            have q186 : x5_2 < (l0.length : Int) := of_decide_eq_true (by first | (with_reducible assumption) | assumption)
                            obtain ⟨ad186, A186_2, c186_2, A186_3, c186_3, e186, hx186_0, hx186_1, hx186_2, hx186_3, hl186_2, hi186_2, hl186_3, hi186_3⟩ := at_T42 HR0.out x5_2 p186 q186
                            cases e186
                            replace hx186_0 := (HB.out.cell (World.block_lt_of_cell? w _ hx186_0)).trans hx186_0
                            replace hx186_1 := (HB.out.cell (World.block_lt_of_cell? w _ hx186_1)).trans hx186_1
                            replace hx186_2 := (HB.out.cell (World.block_lt_of_cell? w _ hx186_2)).trans hx186_2
                            replace hx186_3 := (HB.out.cell (World.block_lt_of_cell? w _ hx186_3)).trans hx186_3
                            have HR186_2 := Aside0.mk hi186_2
                            have HC186_2 := Aside0.mk hl186_2
                            clear hi186_2 hl186_2
                            have HR186_3 := Aside0.mk hi186_3
                            have HC186_3 := Aside0.mk hl186_3
                            clear hi186_3 hl186_3
                            replace p186 := eq_true p186
                            replace q186 := eq_true q186
                            have p187 : 0 ≤ (x5_2 : Int) := of_decide_eq_true (by first | (with_reducible assumption) | assumption)
                            have q187 : x5_2 < (l0.length : Int) := of_decide_eq_true (by first | (with_reducible assumption) | assumption)
                            obtain ⟨ad187, A187_2, c187_2, A187_3, c187_3, e187, hx187_0, hx187_1, hx187_2, hx187_3, hl187_2, hi187_2, hl187_3, hi187_3⟩ := at_T42 HR0.out x5_2 p187 q187
                            obtain rfl : ad186 = ad187 := (by injection e187)
                            replace hx187_0 := (HB.out.cell (World.block_lt_of_cell? w _ hx187_0)).trans hx187_0
                            replace hx187_1 := (HB.out.cell (World.block_lt_of_cell? w _ hx187_1)).trans hx187_1
                            replace hx187_2 := (HB.out.cell (World.block_lt_of_cell? w _ hx187_2)).trans hx187_2
                            replace hx187_3 := (HB.out.cell (World.block_lt_of_cell? w _ hx187_3)).trans hx187_3
                            have HR187_2 := Aside0.mk hi187_2
                            have HC187_2 := Aside0.mk hl187_2
                            clear hi187_2 hl187_2
                            have HR187_3 := Aside0.mk hi187_3
                            have HC187_3 := Aside0.mk hl187_3
                            clear hi187_3 hl187_3
                            replace p187 := eq_true p187
                            replace q187 := eq_true q187
                            have ea_ := Option.some.inj (hx186_2.symm.trans hx187_2)
                            injection ea_ with ea_ en_ ec_
                            subst ea_
                            subst ec_
                            clear en_
                            have ea_ := Option.some.inj (hx186_3.symm.trans hx187_3)
                            injection ea_ with ea_ en_ ec_
                            subst ea_
                            subst ec_
                            clear en_
                            have p188 : 0 ≤ (x6_3 : Int) := of_decide_eq_true (by first | (with_reducible assumption) | assumption)
                            have q188 : x6_3 < (((rd_T42 l0 x5_2).f2).length : Int) := of_decide_eq_true (by first | (with_reducible assumption) | assumption)
                            obtain ⟨ad188, e188, hx188_0⟩ := Kd.at_string HR187_2.out x6_3 p188 q188
                            cases e188
                            replace hx188_0 := (HB.out.cell (World.block_lt_of_cell? w _ hx188_0)).trans hx188_0
                            replace p188 := eq_true p188
                            replace q188 := eq_true q188
                            obtain ⟨Ao13, co13, eo13⟩ := Kd.R_slice HO_3.out
                            subst eo13
                            go_wp2_with (first | ((with_reducible refine gate_callee (f := 11) rfl ?_); refine goesL_ (some 46) rfl rfl Tryd.func11 (by kernel_rfl) rfl #[.slice Ao13 x3_1.length co13, .string (rdOf ByteArray.empty ((rd_T42 l0 x5_2).f2) x6_3)] rfl (by (try simp only [List.map_toArray, List.map_cons, List.map_nil]); first | done | rfl | (simp only [List.length_drop, List.length_take]; rfl)) ?_; (with_reducible refine (monticuleref06_In.calls k3 _ _ x3_1 (rdOf ByteArray.empty ((rd_T42 l0 x5_2).f2) x6_3) true _ ?side1 ?side2 A11.out).mono ?_); (case side1 => repeat (first | exact (Kd.R_reads' HO_3.out).2.2 | (with_reducible refine Kd.C_alloc ?_ _) | (with_reducible refine Kd.C_drewN ?_ _) | (with_reducible refine Kd.C_drew ?_))); (case side2 => exact (Kd.R_reads' HO_3.out).2.1); rintro e w' ⟨rfl, ⟨nd, rfl⟩⟩; refine ⟨_, rfl, ?_⟩))
                            go_roundg k3
                            case measure => have := HK1.out; have := HK2.out; have := HK3.out; omega
                            case rel => exact ⟨(wrap64 (x6_3 + 1)), (by first | rfl | (simp; done) | (simp [*]; done)), H', ⟨by have := HK1.out; have := HK2.out; have := HK3.out; omega⟩, ⟨by (with_reducible repeat (first | apply Kd.R_alloc | apply Kd.R_drewN | apply Kd.R_drew)); exact HO_3.out⟩, ⟨by repeat (first | (with_reducible first | exact HB.out | apply below_alloc | apply pw_below_drewN | apply below_drew1) | exact HB.out)⟩⟩
                          · replace c12 := Bool.eq_false_iff.mpr c12
                            subst c12
                            have H1 : (some false) = some r := by rw [if_neg (show ¬ (false = true) by decide)] at H; exact H
                            clear H
                            have H := H1
                            clear H1
                            obtain rfl := Option.some.inj H
                            have p186 : 0 ≤ (x5_2 : Int) := of_decide_eq_true (by first | (with_reducible assumption) | assumption)
                            have q186 : x5_2 < (l0.length : Int) := of_decide_eq_true (by first | (with_reducible assumption) | assumption)
                            obtain ⟨ad186, A186_2, c186_2, A186_3, c186_3, e186, hx186_0, hx186_1, hx186_2, hx186_3, hl186_2, hi186_2, hl186_3, hi186_3⟩ := at_T42 HR0.out x5_2 p186 q186
                            cases e186
                            replace hx186_0 := (HB.out.cell (World.block_lt_of_cell? w _ hx186_0)).trans hx186_0
                            replace hx186_1 := (HB.out.cell (World.block_lt_of_cell? w _ hx186_1)).trans hx186_1
                            replace hx186_2 := (HB.out.cell (World.block_lt_of_cell? w _ hx186_2)).trans hx186_2
                            replace hx186_3 := (HB.out.cell (World.block_lt_of_cell? w _ hx186_3)).trans hx186_3
                            have HR186_2 := Aside0.mk hi186_2
                            have HC186_2 := Aside0.mk hl186_2
                            clear hi186_2 hl186_2
                            have HR186_3 := Aside0.mk hi186_3
                            have HC186_3 := Aside0.mk hl186_3
                            clear hi186_3 hl186_3
                            replace p186 := eq_true p186
                            replace q186 := eq_true q186
                            have p187 : 0 ≤ (x5_2 : Int) := of_decide_eq_true (by first | (with_reducible assumption) | assumption)
                            have q187 : x5_2 < (l0.length : Int) := of_decide_eq_true (by first | (with_reducible assumption) | assumption)
                            obtain ⟨ad187, A187_2, c187_2, A187_3, c187_3, e187, hx187_0, hx187_1, hx187_2, hx187_3, hl187_2, hi187_2, hl187_3, hi187_3⟩ := at_T42 HR0.out x5_2 p187 q187
                            obtain rfl : ad186 = ad187 := (by injection e187)
                            replace hx187_0 := (HB.out.cell (World.block_lt_of_cell? w _ hx187_0)).trans hx187_0
                            replace hx187_1 := (HB.out.cell (World.block_lt_of_cell? w _ hx187_1)).trans hx187_1
                            replace hx187_2 := (HB.out.cell (World.block_lt_of_cell? w _ hx187_2)).trans hx187_2
                            replace hx187_3 := (HB.out.cell (World.block_lt_of_cell? w _ hx187_3)).trans hx187_3
                            have HR187_2 := Aside0.mk hi187_2
                            have HC187_2 := Aside0.mk hl187_2
                            clear hi187_2 hl187_2
                            have HR187_3 := Aside0.mk hi187_3
                            have HC187_3 := Aside0.mk hl187_3
                            clear hi187_3 hl187_3
                            replace p187 := eq_true p187
                            replace q187 := eq_true q187
                            have ea_ := Option.some.inj (hx186_2.symm.trans hx187_2)
                            injection ea_ with ea_ en_ ec_
                            subst ea_
                            subst ec_
                            clear en_
                            have ea_ := Option.some.inj (hx186_3.symm.trans hx187_3)
                            injection ea_ with ea_ en_ ec_
                            subst ea_
                            subst ec_
                            clear en_
                            have p188 : 0 ≤ (x6_3 : Int) := of_decide_eq_true (by first | (with_reducible assumption) | assumption)
                            have q188 : x6_3 < (((rd_T42 l0 x5_2).f2).length : Int) := of_decide_eq_true (by first | (with_reducible assumption) | assumption)
                            obtain ⟨ad188, e188, hx188_0⟩ := Kd.at_string HR187_2.out x6_3 p188 q188
                            cases e188
                            replace hx188_0 := (HB.out.cell (World.block_lt_of_cell? w _ hx188_0)).trans hx188_0
                            replace p188 := eq_true p188
                            replace q188 := eq_true q188
                            obtain ⟨Ao14, co14, eo14⟩ := Kd.R_slice HO_3.out
                            subst eo14
                            go_wp2_with (first | ((with_reducible refine gate_callee (f := 11) rfl ?_); refine goesL_ (some 46) rfl rfl Tryd.func11 (by kernel_rfl) rfl #[.slice Ao14 x3_1.length co14, .string (rdOf ByteArray.empty ((rd_T42 l0 x5_2).f2) x6_3)] rfl (by (try simp only [List.map_toArray, List.map_cons, List.map_nil]); first | done | rfl | (simp only [List.length_drop, List.length_take]; rfl)) ?_; (with_reducible refine (monticuleref06_In.calls k3 _ _ x3_1 (rdOf ByteArray.empty ((rd_T42 l0 x5_2).f2) x6_3) false _ ?side1 ?side2 A11.out).mono ?_); (case side1 => repeat (first | exact (Kd.R_reads' HO_3.out).2.2 | (with_reducible refine Kd.C_alloc ?_ _) | (with_reducible refine Kd.C_drewN ?_ _) | (with_reducible refine Kd.C_drew ?_))); (case side2 => exact (Kd.R_reads' HO_3.out).2.1); rintro e w' ⟨rfl, ⟨nd, rfl⟩⟩; refine ⟨_, rfl, ?_⟩))
                            go_ret
                            exact ⟨by first | rfl | (simp [errW_none, errW_some] <;> rfl) | (simp [*, errW_none, errW_some] <;> rfl), by repeat (first | (with_reducible first | exact HB.out | apply below_alloc | apply pw_below_drewN | apply below_drew1) | exact HB.out)⟩
                        · rw [if_neg c10] at H
                          exact absurd H (by simp)
                      · rw [if_neg c9] at H
                        have c9b0 : decide (x6_3 < (((rd_T42 l0 x5_2).f2).length : Int)) = false := decide_eq_false c9
                        clear c9
                        have H' := Aside0.mk H
                        clear H
                        have p186 : 0 ≤ (x5_2 : Int) := of_decide_eq_true (by first | (with_reducible assumption) | assumption)
                        have q186 : x5_2 < (l0.length : Int) := of_decide_eq_true (by first | (with_reducible assumption) | assumption)
                        obtain ⟨ad186, A186_2, c186_2, A186_3, c186_3, e186, hx186_0, hx186_1, hx186_2, hx186_3, hl186_2, hi186_2, hl186_3, hi186_3⟩ := at_T42 HR0.out x5_2 p186 q186
                        cases e186
                        replace hx186_0 := (HB.out.cell (World.block_lt_of_cell? w _ hx186_0)).trans hx186_0
                        replace hx186_1 := (HB.out.cell (World.block_lt_of_cell? w _ hx186_1)).trans hx186_1
                        replace hx186_2 := (HB.out.cell (World.block_lt_of_cell? w _ hx186_2)).trans hx186_2
                        replace hx186_3 := (HB.out.cell (World.block_lt_of_cell? w _ hx186_3)).trans hx186_3
                        have HR186_2 := Aside0.mk hi186_2
                        have HC186_2 := Aside0.mk hl186_2
                        clear hi186_2 hl186_2
                        have HR186_3 := Aside0.mk hi186_3
                        have HC186_3 := Aside0.mk hl186_3
                        clear hi186_3 hl186_3
                        replace p186 := eq_true p186
                        replace q186 := eq_true q186
                        go_wp2
                        go_roundg k3
                        case measure => have := HK1.out; have := HK2.out; have := HK3.out; omega
                        case rel => exact ⟨(wrap64 (x5_2 + 1)), (by first | rfl | (simp; done) | (simp [*]; done)), H', ⟨by have := HK1.out; have := HK2.out; have := HK3.out; omega⟩, ⟨by (with_reducible repeat (first | apply Kd.R_alloc | apply Kd.R_drewN | apply Kd.R_drew)); exact HO_3.out⟩, ⟨by repeat (first | (with_reducible first | exact HB.out | apply below_alloc | apply pw_below_drewN | apply below_drew1) | exact HB.out)⟩⟩
                    · rw [if_neg c8] at H
                      exact absurd H (by simp)
                  · rw [if_neg c7] at H
                    exact absurd H (by simp)
            · rw [if_neg c6] at H
              have c6b0 : decide (x5_2 < (l0.length : Int)) = false := decide_eq_false c6
              clear c6
              obtain rfl := Option.some.inj H
              go_wp2
              go_ret
              exact ⟨by first | rfl | (simp [errW_none, errW_some] <;> rfl) | (simp [*, errW_none, errW_some] <;> rfl), by repeat (first | (with_reducible first | exact HB.out | apply below_alloc | apply pw_below_drewN | apply below_drew1) | exact HB.out)⟩

end Go.Proofs.YtllgcnckaodjkaaDoor.Q
