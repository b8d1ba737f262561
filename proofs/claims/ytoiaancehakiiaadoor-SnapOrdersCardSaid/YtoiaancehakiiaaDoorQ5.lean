-- Printed for this claim by a program of the session's own over the kit's printer; Lean checks it.
import Derived.Test.YtoiaancehakiiaaDoorQ0
namespace Go.Proofs.YtoiaancehakiiaaDoor.Q
open Go.RowKit Go.Proofs.YtoiaancehakiiaaDoorW.PrintWords Go.Proofs.YtoiaancehakiiaaDoorW.PrintLast Go.Proofs.YtoiaancehakiiaaDoorW.PrintMore
attribute [local go_sem] max2_int min2_int max_two min_two max_three min_three max_four min_four   -- for this text's walks alone
set_option linter.unusedVariables false
set_option linter.unusedSimpArgs false

/-! ### monticuleref01_Same: function 37 -/
def monticuleref01_Same.l0 : Nat → List ByteArray → List ByteArray → Int → Option (Bool)
  | 0, _, _, _ => none
  | k + 1, x0, x1, x5 => if x5 < (x0.length : Int) then (if 0 ≤ x5 then (if x5 < (x1.length : Int) then (if (rdOf ByteArray.empty x0 x5).toList = (rdOf ByteArray.empty x1 x5).toList then (monticuleref01_Same.l0 k x0 x1 (wrap64 (x5 + 1))) else (some false)) else (none)) else (none)) else (some true)
def monticuleref01_Same.f (k : Nat) (l0 : List ByteArray) (l1 : List ByteArray) : Option (Bool) := if (l0.length : Int) = (l1.length : Int) then (monticuleref01_Same.l0 k l0 l1 0) else (some false)
theorem monticuleref01_Same.mono_l : ∀ k, (∀ y0 y1 y2, LeO (monticuleref01_Same.l0 k y0 y1 y2) (monticuleref01_Same.l0 (k + 1) y0 y1 y2))
  | 0 => fun _ _ _ r h => by simp [monticuleref01_Same.l0] at h
  | k + 1 => by
    have ih0 := monticuleref01_Same.mono_l k
    · intro y0 y1 y2
      unfold monticuleref01_Same.l0
      repeat' first
      | (with_reducible exact ih0 _ _ _)
      | (with_reducible exact LeO.refl _)
      | (with_reducible exact LeO.none _)
      | (with_reducible refine LeO.ite ?_ ?_)
      | (with_reducible refine LeO.bind ?_ (fun _ => ?_))
      | exact ih0 _ _ _
      | exact LeO.none _
      | refine LeO.ite ?_ ?_
      | refine LeO.bind ?_ (fun _ => ?_)
theorem monticuleref01_Same.mono : ∀ a0 a1 k, LeO (monticuleref01_Same.f k a0 a1) (monticuleref01_Same.f (k + 1) a0 a1) := by
  intro a0 a1 k
  have ih0 := monticuleref01_Same.mono_l k
  unfold monticuleref01_Same.f
  repeat' first
      | (with_reducible exact ih0 _ _ _)
      | (with_reducible exact LeO.refl _)
      | (with_reducible exact LeO.none _)
      | (with_reducible refine LeO.ite ?_ ?_)
      | (with_reducible refine LeO.bind ?_ (fun _ => ?_))
      | exact ih0 _ _ _
      | exact LeO.none _
      | refine LeO.ite ?_ ?_
      | refine LeO.bind ?_ (fun _ => ?_)
set_option maxHeartbeats 8000000 in
set_option maxRecDepth 100000 in
theorem monticuleref01_Same.calls (k : Nat) (A0 : Option Addr) (c0 : Nat) (l0 : List ByteArray) (A1 : Option Addr) (c1 : Nat) (l1 : List ByteArray) (r : Bool) (w : World) (hr0 : Kd.C Kd.string w A0 l0.length l0) (hc0 : l0.length ≤ c0) (hr1 : Kd.C Kd.string w A1 l1.length l1) (hc1 : l1.length ≤ c1) (h : monticuleref01_Same.f k l0 l1 = some r) :
    Calls Tryd.prog 37 #[.slice A0 l0.length c0, .slice A1 l1.length c1] w fun e w' => e = .returned (.bool r) ∧ Drawn0 w w' := by
  have HR0 := Aside0.mk hr0
  have HC0 := Aside0.mk hc0
  clear hr0 hc0
  have HR1 := Aside0.mk hr1
  have HC1 := Aside0.mk hc1
  clear hr1 hc1
  have H : (if (l0.length : Int) = (l1.length : Int) then (monticuleref01_Same.l0 k l0 l1 0) else (some false)) = some r := h
  clear h
  by_cases c3 : (l0.length : Int) = (l1.length : Int)
  · rw [if_pos c3] at H
    have c3b0 : ((l0.length : Int) == (l1.length : Int)) = true := beq_iff_eq.mpr c3
    have c3b1 : ((l0.length : Int) != (l1.length : Int)) = false := bne_eq_false_iff_eq.mpr c3
    have c3b2 : (l0.length == l1.length) = true := by first | simpa using c3 | (simp at c3 ⊢; omega)
    clear c3
    have H' := Aside0.mk H
    clear H
    go_enter Tryd.func37, Tryd.ntmps37
    go_wp2
    repeat (go_quiet (fail); try go_wp2)
    go_loopg [5] k (fun kq v5 w' => ∃ (x5_1 : Int), v5 = .int .i64 x5_1 ∧ Aside0 (monticuleref01_Same.l0 kq l0 l1 x5_1 = some r) ∧ Aside0 (kq ≤ k) ∧ Drawn0 w w')
    case atStart => exact ⟨(0), (by first | rfl | (simp; done) | (simp [*]; done)), H', ⟨Nat.le_refl _⟩, by repeat (first | exact Drawn0.refl _ | apply Drawn0.step)⟩
    case round =>
      clear H'
      try clear c1
      try clear p2
      try clear c3
      try clear c3b0
      try clear c3b1
      try clear c3b2
      obtain ⟨x5_1, rfl, HA, HK1, ⟨m1, rfl⟩⟩ := hrel
      cases gk with
      | zero => exact absurd HA.out (by simp [monticuleref01_Same.l0])
      | succ k1 =>
        have H := HA.out
        clear HA
        simp only [monticuleref01_Same.l0] at H
        by_cases c4 : x5_1 < (l0.length : Int)
        · rw [if_pos c4] at H
          have c4b0 : decide (x5_1 < (l0.length : Int)) = true := decide_eq_true c4
          clear c4
          by_cases c5 : 0 ≤ x5_1
          · rw [if_pos c5] at H
            have c5b0 : decide (0 ≤ x5_1) = true := decide_eq_true c5
            clear c5
            by_cases c6 : x5_1 < (l1.length : Int)
            · rw [if_pos c6] at H
              have c6b0 : decide (x5_1 < (l1.length : Int)) = true := decide_eq_true c6
              clear c6
              by_cases c7 : (rdOf ByteArray.empty l0 x5_1).toList = (rdOf ByteArray.empty l1 x5_1).toList
              · rw [if_pos c7] at H
                have c7b0 : ((rdOf ByteArray.empty l0 x5_1).toList == (rdOf ByteArray.empty l1 x5_1).toList) = true := beq_iff_eq.mpr c7
                have c7b1 : ((rdOf ByteArray.empty l0 x5_1).toList != (rdOf ByteArray.empty l1 x5_1).toList) = false := bne_eq_false_iff_eq.mpr c7
                clear c7
                have H' := Aside0.mk H
                clear H
                have p181 : 0 ≤ (x5_1 : Int) := of_decide_eq_true (by first | (with_reducible assumption) | assumption)
                have q181 : x5_1 < (l0.length : Int) := of_decide_eq_true (by first | (with_reducible assumption) | assumption)
                obtain ⟨ad181, e181, hx181_0⟩ := Kd.at_string HR0.out x5_1 p181 q181
                cases e181
                replace p181 := eq_true p181
                replace q181 := eq_true q181
                have p182 : 0 ≤ (x5_1 : Int) := of_decide_eq_true (by first | (with_reducible assumption) | assumption)
                have q182 : x5_1 < (l1.length : Int) := of_decide_eq_true (by first | (with_reducible assumption) | assumption)
                obtain ⟨ad182, e182, hx182_0⟩ := Kd.at_string HR1.out x5_1 p182 q182
                cases e182
                replace p182 := eq_true p182
                replace q182 := eq_true q182
                go_wp2
                repeat (go_quiet (fail); try go_wp2)
                go_roundg k1
                case measure => have := HK1.out; omega
                case rel => exact ⟨(wrap64 (x5_1 + 1)), (by first | rfl | (simp; done) | (simp [*]; done)), H', ⟨by have := HK1.out; omega⟩, by repeat (first | exact Drawn0.refl _ | apply Drawn0.step)⟩
              · rw [if_neg c7] at H
                have c7b0 : ((rdOf ByteArray.empty l0 x5_1).toList == (rdOf ByteArray.empty l1 x5_1).toList) = false := beq_eq_false_iff_ne.mpr c7
                have c7b1 : ((rdOf ByteArray.empty l0 x5_1).toList != (rdOf ByteArray.empty l1 x5_1).toList) = true := bne_iff_ne.mpr c7
                obtain rfl := Option.some.inj H
                have p181 : 0 ≤ (x5_1 : Int) := of_decide_eq_true (by first | (with_reducible assumption) | assumption)
                have q181 : x5_1 < (l0.length : Int) := of_decide_eq_true (by first | (with_reducible assumption) | assumption)
                obtain ⟨ad181, e181, hx181_0⟩ := Kd.at_string HR0.out x5_1 p181 q181
                cases e181
                replace p181 := eq_true p181
                replace q181 := eq_true q181
                have p182 : 0 ≤ (x5_1 : Int) := of_decide_eq_true (by first | (with_reducible assumption) | assumption)
                have q182 : x5_1 < (l1.length : Int) := of_decide_eq_true (by first | (with_reducible assumption) | assumption)
                obtain ⟨ad182, e182, hx182_0⟩ := Kd.at_string HR1.out x5_1 p182 q182
                cases e182
                replace p182 := eq_true p182
                replace q182 := eq_true q182
                go_wp2
                repeat (go_quiet (fail); try go_wp2)
                go_ret
                exact ⟨by first | rfl | (simp; done) | (simp [*]; done), by repeat (first | exact Drawn0.refl _ | apply Drawn0.step)⟩
            · rw [if_neg c6] at H
              exact absurd H (by simp)
          · rw [if_neg c5] at H
            exact absurd H (by simp)
        · rw [if_neg c4] at H
          have c4b0 : decide (x5_1 < (l0.length : Int)) = false := decide_eq_false c4
          clear c4
          obtain rfl := Option.some.inj H
          go_wp2
          repeat (go_quiet (fail); try go_wp2)
          go_ret
          exact ⟨by first | rfl | (simp; done) | (simp [*]; done), by repeat (first | exact Drawn0.refl _ | apply Drawn0.step)⟩
  · rw [if_neg c3] at H
    have c3b0 : ((l0.length : Int) == (l1.length : Int)) = false := beq_eq_false_iff_ne.mpr c3
    have c3b1 : ((l0.length : Int) != (l1.length : Int)) = true := bne_iff_ne.mpr c3
    have c3b2 : (l0.length == l1.length) = false := by first | simpa using c3 | (simp at c3 ⊢; omega)
    obtain rfl := Option.some.inj H
    go_enter Tryd.func37, Tryd.ntmps37
    go_wp2
    repeat (go_quiet (fail); try go_wp2)
    go_ret
    exact ⟨by first | rfl | (simp; done) | (simp [*]; done), by repeat (first | exact Drawn0.refl _ | apply Drawn0.step)⟩

/-! ### monticuleref07_Same: function 10 -/
def monticuleref07_Same.f (k : Nat) (a0_0 : Int) (a0_1 : ByteArray) (a0_2 : ByteArray) (l0_3 : List ByteArray) (a0_4 : ByteArray) (a0_5 : ByteArray) (a1_0 : Int) (a1_1 : ByteArray) (a1_2 : ByteArray) (l1_3 : List ByteArray) (a1_4 : ByteArray) (a1_5 : ByteArray) : Option (Bool) := if a0_0 = a1_0 then (if a0_1.toList = a1_1.toList then (if a0_2.toList = a1_2.toList then (if a0_4.toList = a1_4.toList then (if a0_5.toList = a1_5.toList then ((monticuleref01_Same.f k l0_3 l1_3).bind fun t185 => (some t185)) else (some false)) else (some false)) else (some false)) else (some false)) else (some false)
theorem monticuleref07_Same.mono : ∀ a0 a1 a2 a3 a4 a5 a6 a7 a8 a9 a10 a11 k, LeO (monticuleref07_Same.f k a0 a1 a2 a3 a4 a5 a6 a7 a8 a9 a10 a11) (monticuleref07_Same.f (k + 1) a0 a1 a2 a3 a4 a5 a6 a7 a8 a9 a10 a11) := by
  intro a0 a1 a2 a3 a4 a5 a6 a7 a8 a9 a10 a11 k
  unfold monticuleref07_Same.f
  repeat' first
      | (with_reducible exact monticuleref01_Same.mono _ _ _)
      | (with_reducible exact LeO.refl _)
      | (with_reducible exact LeO.none _)
      | (with_reducible refine LeO.ite ?_ ?_)
      | (with_reducible refine LeO.bind ?_ (fun _ => ?_))
      | exact monticuleref01_Same.mono _ _ _
      | exact LeO.none _
      | refine LeO.ite ?_ ?_
      | refine LeO.bind ?_ (fun _ => ?_)
set_option maxHeartbeats 8000000 in
set_option maxRecDepth 100000 in
theorem monticuleref07_Same.calls (k : Nat) (a0_0 : Int) (a0_1 : ByteArray) (a0_2 : ByteArray) (A0_3 : Option Addr) (c0_3 : Nat) (l0_3 : List ByteArray) (a0_4 : ByteArray) (a0_5 : ByteArray) (a1_0 : Int) (a1_1 : ByteArray) (a1_2 : ByteArray) (A1_3 : Option Addr) (c1_3 : Nat) (l1_3 : List ByteArray) (a1_4 : ByteArray) (a1_5 : ByteArray) (r : Bool) (w : World) (hr0_3 : Kd.C Kd.string w A0_3 l0_3.length l0_3) (hc0_3 : l0_3.length ≤ c0_3) (hr1_3 : Kd.C Kd.string w A1_3 l1_3.length l1_3) (hc1_3 : l1_3.length ≤ c1_3) (h : monticuleref07_Same.f k a0_0 a0_1 a0_2 l0_3 a0_4 a0_5 a1_0 a1_1 a1_2 l1_3 a1_4 a1_5 = some r) :
    Calls Tryd.prog 10 #[.agg #[.int .i64 a0_0, .string a0_1, .string a0_2, .slice A0_3 l0_3.length c0_3, .string a0_4, .string a0_5], .agg #[.int .i64 a1_0, .string a1_1, .string a1_2, .slice A1_3 l1_3.length c1_3, .string a1_4, .string a1_5]] w fun e w' => e = .returned (.bool r) ∧ Below w.heap.size w w' := by
  have hu31 := Tryd.underlying31
  have HR0_3 := Aside0.mk hr0_3
  have HC0_3 := Aside0.mk hc0_3
  clear hr0_3 hc0_3
  have HR1_3 := Aside0.mk hr1_3
  have HC1_3 := Aside0.mk hc1_3
  clear hr1_3 hc1_3
  have HB := Aside0.mk (Below.refl w.heap.size w)
  have H : (if a0_0 = a1_0 then (if a0_1.toList = a1_1.toList then (if a0_2.toList = a1_2.toList then (if a0_4.toList = a1_4.toList then (if a0_5.toList = a1_5.toList then ((monticuleref01_Same.f k l0_3 l1_3).bind fun t185 => (some t185)) else (some false)) else (some false)) else (some false)) else (some false)) else (some false)) = some r := h
  clear h
  by_cases c3 : a0_0 = a1_0
  · rw [if_pos c3] at H
    have c3b0 : (a0_0 == a1_0) = true := beq_iff_eq.mpr c3
    have c3b1 : (a0_0 != a1_0) = false := bne_eq_false_iff_eq.mpr c3
    clear c3
    by_cases c4 : a0_1.toList = a1_1.toList
    · rw [if_pos c4] at H
      have c4b0 : (a0_1.toList == a1_1.toList) = true := beq_iff_eq.mpr c4
      have c4b1 : (a0_1.toList != a1_1.toList) = false := bne_eq_false_iff_eq.mpr c4
      clear c4
      by_cases c5 : a0_2.toList = a1_2.toList
      · rw [if_pos c5] at H
        have c5b0 : (a0_2.toList == a1_2.toList) = true := beq_iff_eq.mpr c5
        have c5b1 : (a0_2.toList != a1_2.toList) = false := bne_eq_false_iff_eq.mpr c5
        clear c5
        by_cases c6 : a0_4.toList = a1_4.toList
        · rw [if_pos c6] at H
          have c6b0 : (a0_4.toList == a1_4.toList) = true := beq_iff_eq.mpr c6
          have c6b1 : (a0_4.toList != a1_4.toList) = false := bne_eq_false_iff_eq.mpr c6
          clear c6
          by_cases c7 : a0_5.toList = a1_5.toList
          · rw [if_pos c7] at H
            have c7b0 : (a0_5.toList == a1_5.toList) = true := beq_iff_eq.mpr c7
            have c7b1 : (a0_5.toList != a1_5.toList) = false := bne_eq_false_iff_eq.mpr c7
            clear c7
            replace H := Option.bind_eq_some_iff.mp H
            obtain ⟨t185, A80, H⟩ := H
            replace H : (some t185) = some r := H
            have A8 := Aside0.mk A80
            clear A80
            obtain rfl := Option.some.inj H
            go_enter Tryd.func10, Tryd.ntmps10
            go_wp2_with (first | ((with_reducible refine gate_dst (N := 2) rfl ?_); refine box_event ?hg (N := 2) ?hd (cs := #[.int .i64 a0_0, .string a0_1, .string a0_2, .slice A0_3 l0_3.length c0_3, .string a0_4, .string a0_5]) (t := 31) ?hr ?_; (case hd => rfl); (case hg => rfl); (case hr => first | (go_simp; done) | (go_simp; rfl)); intro gb183 hg w9 hbox hb; have n0_ := Aside0.mk (below_step (by repeat (first | (with_reducible first | exact HB.out | apply below_alloc | apply pw_below_drewN | apply below_drew1) | exact HB.out)) hb); have n1_ := Aside0.mk (hbox); have n2_ := Aside0.mk ((by rw [hg]; exact (below_size (by repeat (first | (with_reducible first | exact HB.out | apply below_alloc | apply pw_below_drewN | apply below_drew1) | exact HB.out))) : w.heap.size ≤ gb183)); have n3_ := Aside0.mk ((by rw [hg]; exact (below_size (by repeat (first | (with_reducible first | exact HB.out | apply below_alloc | apply pw_below_drewN | apply below_drew1) | exact HB.out))) : w.heap.size ≤ gb183)); clear HB; have HB := n0_; have BK183 := n1_; have GW183 := n2_; have GE183 := n3_; clear n0_ n1_ n2_ n3_; clear hb hbox hg) | ((with_reducible refine gate_dst (N := 3) rfl ?_); refine box_event ?hg (N := 3) ?hd (cs := #[.int .i64 a1_0, .string a1_1, .string a1_2, .slice A1_3 l1_3.length c1_3, .string a1_4, .string a1_5]) (t := 31) ?hr ?_; (case hd => rfl); (case hg => rfl); (case hr => first | (go_simp; done) | (go_simp; rfl)); intro gb184 hg w10 hbox hb; have n0_ := Aside0.mk (blk_below (g := gb183) (o := .cells #[.int .i64 a0_0, .string a0_1, .string a0_2, .slice A0_3 l0_3.length c0_3, .string a0_4, .string a0_5] 31 (0, 0)) (by (with_reducible repeat (first | refine blk_drewN ?_ _ | refine blk_drew ?_ | refine blk_alloc ?_ _)); exact BK183.out) hb); have n1_ := Aside0.mk (below_step (by repeat (first | (with_reducible first | exact HB.out | apply below_alloc | apply pw_below_drewN | apply below_drew1 | refine below_set ?_ GE183.out) | exact HB.out)) hb); have n2_ := Aside0.mk (hbox); have n3_ := Aside0.mk ((by rw [hg]; exact (below_size (by repeat (first | (with_reducible first | exact HB.out | apply below_alloc | apply pw_below_drewN | apply below_drew1 | refine below_set ?_ GE183.out) | exact HB.out))) : w.heap.size ≤ gb184)); have n4_ := Aside0.mk ((by rw [hg]; exact (below_size (by repeat (first | (with_reducible first | exact HB.out | apply below_alloc | apply pw_below_drewN | apply below_drew1 | refine below_set ?_ GE183.out) | exact HB.out))) : w.heap.size ≤ gb184)); have n5_ := Aside0.mk ((by rw [hg]; exact Nat.ne_of_lt (blk_lt (g := gb183) (o := .cells #[.int .i64 a0_0, .string a0_1, .string a0_2, .slice A0_3 l0_3.length c0_3, .string a0_4, .string a0_5] 31 (0, 0)) (by (with_reducible repeat (first | refine blk_drewN ?_ _ | refine blk_drew ?_ | refine blk_alloc ?_ _)); exact BK183.out)) : gb183 ≠ gb184)); have n6_ := Aside0.mk ((by rw [hg]; exact Nat.ne_of_gt (blk_lt (g := gb183) (o := .cells #[.int .i64 a0_0, .string a0_1, .string a0_2, .slice A0_3 l0_3.length c0_3, .string a0_4, .string a0_5] 31 (0, 0)) (by (with_reducible repeat (first | refine blk_drewN ?_ _ | refine blk_drew ?_ | refine blk_alloc ?_ _)); exact BK183.out)) : gb184 ≠ gb183)); clear BK183; clear HB; have BK183 := n0_; have HB := n1_; have BK184 := n2_; have GW184 := n3_; have GE184 := n4_; have NB183_184 := n5_; have NB184_183 := n6_; clear n0_ n1_ n2_ n3_ n4_ n5_ n6_; clear hb hbox hg; have hnb11 := NB183_184.out; have hnc11 := NB184_183.out; have hcz12_0 : w10.cell? ⟨gb183, 0, none⟩ = some (.int .i64 a0_0) := (blk_cell BK183.out 0).trans rfl; have hcz12_1 : w10.cell? ⟨gb183, 1, none⟩ = some (.string a0_1) := (blk_cell BK183.out 1).trans rfl; have hcz12_2 : w10.cell? ⟨gb183, 2, none⟩ = some (.string a0_2) := (blk_cell BK183.out 2).trans rfl; have hcz12_3 : w10.cell? ⟨gb183, 3, none⟩ = some (.slice A0_3 l0_3.length c0_3) := (blk_cell BK183.out 3).trans rfl; have hcz12_4 : w10.cell? ⟨gb183, 4, none⟩ = some (.string a0_4) := (blk_cell BK183.out 4).trans rfl; have hcz12_5 : w10.cell? ⟨gb183, 5, none⟩ = some (.string a0_5) := (blk_cell BK183.out 5).trans rfl; have hfz12_0 := blk_frozen BK183.out 0; have hfz12_1 := blk_frozen BK183.out 1; have hfz12_2 := blk_frozen BK183.out 2; have hfz12_3 := blk_frozen BK183.out 3; have hfz12_4 := blk_frozen BK183.out 4; have hfz12_5 := blk_frozen BK183.out 5; have hcz13_0 : w10.cell? ⟨gb184, 0, none⟩ = some (.int .i64 a1_0) := (blk_cell BK184.out 0).trans rfl; have hcz13_1 : w10.cell? ⟨gb184, 1, none⟩ = some (.string a1_1) := (blk_cell BK184.out 1).trans rfl; have hcz13_2 : w10.cell? ⟨gb184, 2, none⟩ = some (.string a1_2) := (blk_cell BK184.out 2).trans rfl; have hcz13_3 : w10.cell? ⟨gb184, 3, none⟩ = some (.slice A1_3 l1_3.length c1_3) := (blk_cell BK184.out 3).trans rfl; have hcz13_4 : w10.cell? ⟨gb184, 4, none⟩ = some (.string a1_4) := (blk_cell BK184.out 4).trans rfl; have hcz13_5 : w10.cell? ⟨gb184, 5, none⟩ = some (.string a1_5) := (blk_cell BK184.out 5).trans rfl; have hfz13_0 := blk_frozen BK184.out 0; have hfz13_1 := blk_frozen BK184.out 1; have hfz13_2 := blk_frozen BK184.out 2; have hfz13_3 := blk_frozen BK184.out 3; have hfz13_4 := blk_frozen BK184.out 4; have hfz13_5 := blk_frozen BK184.out 5) | (go_at_call 37; (with_reducible refine (monticuleref01_Same.calls k _ _ l0_3 _ _ l1_3 t185 _ ?side1 ?side2 ?side3 ?side4 A8.out).mono ?_); (case side1 => repeat (first | exact (Kd.C_below HR0_3.out HB.out) | (with_reducible refine Kd.C_alloc ?_ _) | (with_reducible refine Kd.C_drewN ?_ _) | (with_reducible refine Kd.C_drew ?_))); (case side2 => exact HC0_3.out); (case side3 => repeat (first | exact (Kd.C_below HR1_3.out HB.out) | (with_reducible refine Kd.C_alloc ?_ _) | (with_reducible refine Kd.C_drewN ?_ _) | (with_reducible refine Kd.C_drew ?_))); (case side4 => exact HC1_3.out); rintro e w' ⟨rfl, ⟨nd, rfl⟩⟩))
            go_ret
            exact ⟨by first | rfl | (simp [errW_none, errW_some] <;> rfl) | (simp [*, errW_none, errW_some] <;> rfl), by repeat (first | (with_reducible first | exact HB.out | apply below_alloc | apply pw_below_drewN | apply below_drew1 | refine below_set ?_ GE183.out | refine below_set ?_ GE184.out) | exact HB.out)⟩
          · rw [if_neg c7] at H
            have c7b0 : (a0_5.toList == a1_5.toList) = false := beq_eq_false_iff_ne.mpr c7
            have c7b1 : (a0_5.toList != a1_5.toList) = true := bne_iff_ne.mpr c7
            obtain rfl := Option.some.inj H
            go_enter Tryd.func10, Tryd.ntmps10
            go_wp2_with (first | ((with_reducible refine gate_dst (N := 2) rfl ?_); refine box_event ?hg (N := 2) ?hd (cs := #[.int .i64 a0_0, .string a0_1, .string a0_2, .slice A0_3 l0_3.length c0_3, .string a0_4, .string a0_5]) (t := 31) ?hr ?_; (case hd => rfl); (case hg => rfl); (case hr => first | (go_simp; done) | (go_simp; rfl)); intro gb183 hg w14 hbox hb; have n0_ := Aside0.mk (below_step (by repeat (first | (with_reducible first | exact HB.out | apply below_alloc | apply pw_below_drewN | apply below_drew1) | exact HB.out)) hb); have n1_ := Aside0.mk (hbox); have n2_ := Aside0.mk ((by rw [hg]; exact (below_size (by repeat (first | (with_reducible first | exact HB.out | apply below_alloc | apply pw_below_drewN | apply below_drew1) | exact HB.out))) : w.heap.size ≤ gb183)); have n3_ := Aside0.mk ((by rw [hg]; exact (below_size (by repeat (first | (with_reducible first | exact HB.out | apply below_alloc | apply pw_below_drewN | apply below_drew1) | exact HB.out))) : w.heap.size ≤ gb183)); clear HB; have HB := n0_; have BK183 := n1_; have GW183 := n2_; have GE183 := n3_; clear n0_ n1_ n2_ n3_; clear hb hbox hg) | ((with_reducible refine gate_dst (N := 3) rfl ?_); refine box_event ?hg (N := 3) ?hd (cs := #[.int .i64 a1_0, .string a1_1, .string a1_2, .slice A1_3 l1_3.length c1_3, .string a1_4, .string a1_5]) (t := 31) ?hr ?_; (case hd => rfl); (case hg => rfl); (case hr => first | (go_simp; done) | (go_simp; rfl)); intro gb184 hg w15 hbox hb; have n0_ := Aside0.mk (blk_below (g := gb183) (o := .cells #[.int .i64 a0_0, .string a0_1, .string a0_2, .slice A0_3 l0_3.length c0_3, .string a0_4, .string a0_5] 31 (0, 0)) (by (with_reducible repeat (first | refine blk_drewN ?_ _ | refine blk_drew ?_ | refine blk_alloc ?_ _)); exact BK183.out) hb); have n1_ := Aside0.mk (below_step (by repeat (first | (with_reducible first | exact HB.out | apply below_alloc | apply pw_below_drewN | apply below_drew1 | refine below_set ?_ GE183.out) | exact HB.out)) hb); have n2_ := Aside0.mk (hbox); have n3_ := Aside0.mk ((by rw [hg]; exact (below_size (by repeat (first | (with_reducible first | exact HB.out | apply below_alloc | apply pw_below_drewN | apply below_drew1 | refine below_set ?_ GE183.out) | exact HB.out))) : w.heap.size ≤ gb184)); have n4_ := Aside0.mk ((by rw [hg]; exact (below_size (by repeat (first | (with_reducible first | exact HB.out | apply below_alloc | apply pw_below_drewN | apply below_drew1 | refine below_set ?_ GE183.out) | exact HB.out))) : w.heap.size ≤ gb184)); have n5_ := Aside0.mk ((by rw [hg]; exact Nat.ne_of_lt (blk_lt (g := gb183) (o := .cells #[.int .i64 a0_0, .string a0_1, .string a0_2, .slice A0_3 l0_3.length c0_3, .string a0_4, .string a0_5] 31 (0, 0)) (by (with_reducible repeat (first | refine blk_drewN ?_ _ | refine blk_drew ?_ | refine blk_alloc ?_ _)); exact BK183.out)) : gb183 ≠ gb184)); have n6_ := Aside0.mk ((by rw [hg]; exact Nat.ne_of_gt (blk_lt (g := gb183) (o := .cells #[.int .i64 a0_0, .string a0_1, .string a0_2, .slice A0_3 l0_3.length c0_3, .string a0_4, .string a0_5] 31 (0, 0)) (by (with_reducible repeat (first | refine blk_drewN ?_ _ | refine blk_drew ?_ | refine blk_alloc ?_ _)); exact BK183.out)) : gb184 ≠ gb183)); clear BK183; clear HB; have BK183 := n0_; have HB := n1_; have BK184 := n2_; have GW184 := n3_; have GE184 := n4_; have NB183_184 := n5_; have NB184_183 := n6_; clear n0_ n1_ n2_ n3_ n4_ n5_ n6_; clear hb hbox hg; have hnb16 := NB183_184.out; have hnc16 := NB184_183.out; have hcz17_0 : w15.cell? ⟨gb183, 0, none⟩ = some (.int .i64 a0_0) := (blk_cell BK183.out 0).trans rfl; have hcz17_1 : w15.cell? ⟨gb183, 1, none⟩ = some (.string a0_1) := (blk_cell BK183.out 1).trans rfl; have hcz17_2 : w15.cell? ⟨gb183, 2, none⟩ = some (.string a0_2) := (blk_cell BK183.out 2).trans rfl; have hcz17_3 : w15.cell? ⟨gb183, 3, none⟩ = some (.slice A0_3 l0_3.length c0_3) := (blk_cell BK183.out 3).trans rfl; have hcz17_4 : w15.cell? ⟨gb183, 4, none⟩ = some (.string a0_4) := (blk_cell BK183.out 4).trans rfl; have hcz17_5 : w15.cell? ⟨gb183, 5, none⟩ = some (.string a0_5) := (blk_cell BK183.out 5).trans rfl; have hfz17_0 := blk_frozen BK183.out 0; have hfz17_1 := blk_frozen BK183.out 1; have hfz17_2 := blk_frozen BK183.out 2; have hfz17_3 := blk_frozen BK183.out 3; have hfz17_4 := blk_frozen BK183.out 4; have hfz17_5 := blk_frozen BK183.out 5; have hcz18_0 : w15.cell? ⟨gb184, 0, none⟩ = some (.int .i64 a1_0) := (blk_cell BK184.out 0).trans rfl; have hcz18_1 : w15.cell? ⟨gb184, 1, none⟩ = some (.string a1_1) := (blk_cell BK184.out 1).trans rfl; have hcz18_2 : w15.cell? ⟨gb184, 2, none⟩ = some (.string a1_2) := (blk_cell BK184.out 2).trans rfl; have hcz18_3 : w15.cell? ⟨gb184, 3, none⟩ = some (.slice A1_3 l1_3.length c1_3) := (blk_cell BK184.out 3).trans rfl; have hcz18_4 : w15.cell? ⟨gb184, 4, none⟩ = some (.string a1_4) := (blk_cell BK184.out 4).trans rfl; have hcz18_5 : w15.cell? ⟨gb184, 5, none⟩ = some (.string a1_5) := (blk_cell BK184.out 5).trans rfl; have hfz18_0 := blk_frozen BK184.out 0; have hfz18_1 := blk_frozen BK184.out 1; have hfz18_2 := blk_frozen BK184.out 2; have hfz18_3 := blk_frozen BK184.out 3; have hfz18_4 := blk_frozen BK184.out 4; have hfz18_5 := blk_frozen BK184.out 5))
            go_ret
            exact ⟨by first | rfl | (simp [errW_none, errW_some] <;> rfl) | (simp [*, errW_none, errW_some] <;> rfl), by repeat (first | (with_reducible first | exact HB.out | apply below_alloc | apply pw_below_drewN | apply below_drew1 | refine below_set ?_ GE183.out | refine below_set ?_ GE184.out) | exact HB.out)⟩
        · rw [if_neg c6] at H
          have c6b0 : (a0_4.toList == a1_4.toList) = false := beq_eq_false_iff_ne.mpr c6
          have c6b1 : (a0_4.toList != a1_4.toList) = true := bne_iff_ne.mpr c6
          obtain rfl := Option.some.inj H
          go_enter Tryd.func10, Tryd.ntmps10
          go_wp2_with (first | ((with_reducible refine gate_dst (N := 2) rfl ?_); refine box_event ?hg (N := 2) ?hd (cs := #[.int .i64 a0_0, .string a0_1, .string a0_2, .slice A0_3 l0_3.length c0_3, .string a0_4, .string a0_5]) (t := 31) ?hr ?_; (case hd => rfl); (case hg => rfl); (case hr => first | (go_simp; done) | (go_simp; rfl)); intro gb183 hg w19 hbox hb; have n0_ := Aside0.mk (below_step (by repeat (first | (with_reducible first | exact HB.out | apply below_alloc | apply pw_below_drewN | apply below_drew1) | exact HB.out)) hb); have n1_ := Aside0.mk (hbox); have n2_ := Aside0.mk ((by rw [hg]; exact (below_size (by repeat (first | (with_reducible first | exact HB.out | apply below_alloc | apply pw_below_drewN | apply below_drew1) | exact HB.out))) : w.heap.size ≤ gb183)); have n3_ := Aside0.mk ((by rw [hg]; exact (below_size (by repeat (first | (with_reducible first | exact HB.out | apply below_alloc | apply pw_below_drewN | apply below_drew1) | exact HB.out))) : w.heap.size ≤ gb183)); clear HB; have HB := n0_; have BK183 := n1_; have GW183 := n2_; have GE183 := n3_; clear n0_ n1_ n2_ n3_; clear hb hbox hg) | ((with_reducible refine gate_dst (N := 3) rfl ?_); refine box_event ?hg (N := 3) ?hd (cs := #[.int .i64 a1_0, .string a1_1, .string a1_2, .slice A1_3 l1_3.length c1_3, .string a1_4, .string a1_5]) (t := 31) ?hr ?_; (case hd => rfl); (case hg => rfl); (case hr => first | (go_simp; done) | (go_simp; rfl)); intro gb184 hg w20 hbox hb; have n0_ := Aside0.mk (blk_below (g := gb183) (o := .cells #[.int .i64 a0_0, .string a0_1, .string a0_2, .slice A0_3 l0_3.length c0_3, .string a0_4, .string a0_5] 31 (0, 0)) (by (with_reducible repeat (first | refine blk_drewN ?_ _ | refine blk_drew ?_ | refine blk_alloc ?_ _)); exact BK183.out) hb); have n1_ := Aside0.mk (below_step (by repeat (first | (with_reducible first | exact HB.out | apply below_alloc | apply pw_below_drewN | apply below_drew1 | refine below_set ?_ GE183.out) | exact HB.out)) hb); have n2_ := Aside0.mk (hbox); have n3_ := Aside0.mk ((by rw [hg]; exact (below_size (by repeat (first | (with_reducible first | exact HB.out | apply below_alloc | apply pw_below_drewN | apply below_drew1 | refine below_set ?_ GE183.out) | exact HB.out))) : w.heap.size ≤ gb184)); have n4_ := Aside0.mk ((by rw [hg]; exact (below_size (by repeat (first | (with_reducible first | exact HB.out | apply below_alloc | apply pw_below_drewN | apply below_drew1 | refine below_set ?_ GE183.out) | exact HB.out))) : w.heap.size ≤ gb184)); have n5_ := Aside0.mk ((by rw [hg]; exact Nat.ne_of_lt (blk_lt (g := gb183) (o := .cells #[.int .i64 a0_0, .string a0_1, .string a0_2, .slice A0_3 l0_3.length c0_3, .string a0_4, .string a0_5] 31 (0, 0)) (by (with_reducible repeat (first | refine blk_drewN ?_ _ | refine blk_drew ?_ | refine blk_alloc ?_ _)); exact BK183.out)) : gb183 ≠ gb184)); have n6_ := Aside0.mk ((by rw [hg]; exact Nat.ne_of_gt (blk_lt (g := gb183) (o := .cells #[.int .i64 a0_0, .string a0_1, .string a0_2, .slice A0_3 l0_3.length c0_3, .string a0_4, .string a0_5] 31 (0, 0)) (by (with_reducible repeat (first | refine blk_drewN ?_ _ | refine blk_drew ?_ | refine blk_alloc ?_ _)); exact BK183.out)) : gb184 ≠ gb183)); clear BK183; clear HB; have BK183 := n0_; have HB := n1_; have BK184 := n2_; have GW184 := n3_; have GE184 := n4_; have NB183_184 := n5_; have NB184_183 := n6_; clear n0_ n1_ n2_ n3_ n4_ n5_ n6_; clear hb hbox hg; have hnb21 := NB183_184.out; have hnc21 := NB184_183.out; have hcz22_0 : w20.cell? ⟨gb183, 0, none⟩ = some (.int .i64 a0_0) := (blk_cell BK183.out 0).trans rfl; have hcz22_1 : w20.cell? ⟨gb183, 1, none⟩ = some (.string a0_1) := (blk_cell BK183.out 1).trans rfl; have hcz22_2 : w20.cell? ⟨gb183, 2, none⟩ = some (.string a0_2) := (blk_cell BK183.out 2).trans rfl; have hcz22_3 : w20.cell? ⟨gb183, 3, none⟩ = some (.slice A0_3 l0_3.length c0_3) := (blk_cell BK183.out 3).trans rfl; have hcz22_4 : w20.cell? ⟨gb183, 4, none⟩ = some (.string a0_4) := (blk_cell BK183.out 4).trans rfl; have hcz22_5 : w20.cell? ⟨gb183, 5, none⟩ = some (.string a0_5) := (blk_cell BK183.out 5).trans rfl; have hfz22_0 := blk_frozen BK183.out 0; have hfz22_1 := blk_frozen BK183.out 1; have hfz22_2 := blk_frozen BK183.out 2; have hfz22_3 := blk_frozen BK183.out 3; have hfz22_4 := blk_frozen BK183.out 4; have hfz22_5 := blk_frozen BK183.out 5; have hcz23_0 : w20.cell? ⟨gb184, 0, none⟩ = some (.int .i64 a1_0) := (blk_cell BK184.out 0).trans rfl; have hcz23_1 : w20.cell? ⟨gb184, 1, none⟩ = some (.string a1_1) := (blk_cell BK184.out 1).trans rfl; have hcz23_2 : w20.cell? ⟨gb184, 2, none⟩ = some (.string a1_2) := (blk_cell BK184.out 2).trans rfl; have hcz23_3 : w20.cell? ⟨gb184, 3, none⟩ = some (.slice A1_3 l1_3.length c1_3) := (blk_cell BK184.out 3).trans rfl; have hcz23_4 : w20.cell? ⟨gb184, 4, none⟩ = some (.string a1_4) := (blk_cell BK184.out 4).trans rfl; have hcz23_5 : w20.cell? ⟨gb184, 5, none⟩ = some (.string a1_5) := (blk_cell BK184.out 5).trans rfl; have hfz23_0 := blk_frozen BK184.out 0; have hfz23_1 := blk_frozen BK184.out 1; have hfz23_2 := blk_frozen BK184.out 2; have hfz23_3 := blk_frozen BK184.out 3; have hfz23_4 := blk_frozen BK184.out 4; have hfz23_5 := blk_frozen BK184.out 5))
          go_ret
          exact ⟨by first | rfl | (simp [errW_none, errW_some] <;> rfl) | (simp [*, errW_none, errW_some] <;> rfl), by repeat (first | (with_reducible first | exact HB.out | apply below_alloc | apply pw_below_drewN | apply below_drew1 | refine below_set ?_ GE183.out | refine below_set ?_ GE184.out) | exact HB.out)⟩
      · rw [if_neg c5] at H
        have c5b0 : (a0_2.toList == a1_2.toList) = false := beq_eq_false_iff_ne.mpr c5
        have c5b1 : (a0_2.toList != a1_2.toList) = true := bne_iff_ne.mpr c5
        obtain rfl := Option.some.inj H
        go_enter Tryd.func10, Tryd.ntmps10
        go_wp2_with (first | ((with_reducible refine gate_dst (N := 2) rfl ?_); refine box_event ?hg (N := 2) ?hd (cs := #[.int .i64 a0_0, .string a0_1, .string a0_2, .slice A0_3 l0_3.length c0_3, .string a0_4, .string a0_5]) (t := 31) ?hr ?_; (case hd => rfl); (case hg => rfl); (case hr => first | (go_simp; done) | (go_simp; rfl)); intro gb183 hg w24 hbox hb; have n0_ := Aside0.mk (below_step (by repeat (first | (with_reducible first | exact HB.out | apply below_alloc | apply pw_below_drewN | apply below_drew1) | exact HB.out)) hb); have n1_ := Aside0.mk (hbox); have n2_ := Aside0.mk ((by rw [hg]; exact (below_size (by repeat (first | (with_reducible first | exact HB.out | apply below_alloc | apply pw_below_drewN | apply below_drew1) | exact HB.out))) : w.heap.size ≤ gb183)); have n3_ := Aside0.mk ((by rw [hg]; exact (below_size (by repeat (first | (with_reducible first | exact HB.out | apply below_alloc | apply pw_below_drewN | apply below_drew1) | exact HB.out))) : w.heap.size ≤ gb183)); clear HB; have HB := n0_; have BK183 := n1_; have GW183 := n2_; have GE183 := n3_; clear n0_ n1_ n2_ n3_; clear hb hbox hg) | ((with_reducible refine gate_dst (N := 3) rfl ?_); refine box_event ?hg (N := 3) ?hd (cs := #[.int .i64 a1_0, .string a1_1, .string a1_2, .slice A1_3 l1_3.length c1_3, .string a1_4, .string a1_5]) (t := 31) ?hr ?_; (case hd => rfl); (case hg => rfl); (case hr => first | (go_simp; done) | (go_simp; rfl)); intro gb184 hg w25 hbox hb; have n0_ := Aside0.mk (blk_below (g := gb183) (o := .cells #[.int .i64 a0_0, .string a0_1, .string a0_2, .slice A0_3 l0_3.length c0_3, .string a0_4, .string a0_5] 31 (0, 0)) (by (with_reducible repeat (first | refine blk_drewN ?_ _ | refine blk_drew ?_ | refine blk_alloc ?_ _)); exact BK183.out) hb); have n1_ := Aside0.mk (below_step (by repeat (first | (with_reducible first | exact HB.out | apply below_alloc | apply pw_below_drewN | apply below_drew1 | refine below_set ?_ GE183.out) | exact HB.out)) hb); have n2_ := Aside0.mk (hbox); have n3_ := Aside0.mk ((by rw [hg]; exact (below_size (by repeat (first | (with_reducible first | exact HB.out | apply below_alloc | apply pw_below_drewN | apply below_drew1 | refine below_set ?_ GE183.out) | exact HB.out))) : w.heap.size ≤ gb184)); have n4_ := Aside0.mk ((by rw [hg]; exact (below_size (by repeat (first | (with_reducible first | exact HB.out | apply below_alloc | apply pw_below_drewN | apply below_drew1 | refine below_set ?_ GE183.out) | exact HB.out))) : w.heap.size ≤ gb184)); have n5_ := Aside0.mk ((by rw [hg]; exact Nat.ne_of_lt (blk_lt (g := gb183) (o := .cells #[.int .i64 a0_0, .string a0_1, .string a0_2, .slice A0_3 l0_3.length c0_3, .string a0_4, .string a0_5] 31 (0, 0)) (by (with_reducible repeat (first | refine blk_drewN ?_ _ | refine blk_drew ?_ | refine blk_alloc ?_ _)); exact BK183.out)) : gb183 ≠ gb184)); have n6_ := Aside0.mk ((by rw [hg]; exact Nat.ne_of_gt (blk_lt (g := gb183) (o := .cells #[.int .i64 a0_0, .string a0_1, .string a0_2, .slice A0_3 l0_3.length c0_3, .string a0_4, .string a0_5] 31 (0, 0)) (by (with_reducible repeat (first | refine blk_drewN ?_ _ | refine blk_drew ?_ | refine blk_alloc ?_ _)); exact BK183.out)) : gb184 ≠ gb183)); clear BK183; clear HB; have BK183 := n0_; have HB := n1_; have BK184 := n2_; have GW184 := n3_; have GE184 := n4_; have NB183_184 := n5_; have NB184_183 := n6_; clear n0_ n1_ n2_ n3_ n4_ n5_ n6_; clear hb hbox hg; have hnb26 := NB183_184.out; have hnc26 := NB184_183.out; have hcz27_0 : w25.cell? ⟨gb183, 0, none⟩ = some (.int .i64 a0_0) := (blk_cell BK183.out 0).trans rfl; have hcz27_1 : w25.cell? ⟨gb183, 1, none⟩ = some (.string a0_1) := (blk_cell BK183.out 1).trans rfl; have hcz27_2 : w25.cell? ⟨gb183, 2, none⟩ = some (.string a0_2) := (blk_cell BK183.out 2).trans rfl; have hcz27_3 : w25.cell? ⟨gb183, 3, none⟩ = some (.slice A0_3 l0_3.length c0_3) := (blk_cell BK183.out 3).trans rfl; have hcz27_4 : w25.cell? ⟨gb183, 4, none⟩ = some (.string a0_4) := (blk_cell BK183.out 4).trans rfl; have hcz27_5 : w25.cell? ⟨gb183, 5, none⟩ = some (.string a0_5) := (blk_cell BK183.out 5).trans rfl; have hfz27_0 := blk_frozen BK183.out 0; have hfz27_1 := blk_frozen BK183.out 1; have hfz27_2 := blk_frozen BK183.out 2; have hfz27_3 := blk_frozen BK183.out 3; have hfz27_4 := blk_frozen BK183.out 4; have hfz27_5 := blk_frozen BK183.out 5; have hcz28_0 : w25.cell? ⟨gb184, 0, none⟩ = some (.int .i64 a1_0) := (blk_cell BK184.out 0).trans rfl; have hcz28_1 : w25.cell? ⟨gb184, 1, none⟩ = some (.string a1_1) := (blk_cell BK184.out 1).trans rfl; have hcz28_2 : w25.cell? ⟨gb184, 2, none⟩ = some (.string a1_2) := (blk_cell BK184.out 2).trans rfl; have hcz28_3 : w25.cell? ⟨gb184, 3, none⟩ = some (.slice A1_3 l1_3.length c1_3) := (blk_cell BK184.out 3).trans rfl; have hcz28_4 : w25.cell? ⟨gb184, 4, none⟩ = some (.string a1_4) := (blk_cell BK184.out 4).trans rfl; have hcz28_5 : w25.cell? ⟨gb184, 5, none⟩ = some (.string a1_5) := (blk_cell BK184.out 5).trans rfl; have hfz28_0 := blk_frozen BK184.out 0; have hfz28_1 := blk_frozen BK184.out 1; have hfz28_2 := blk_frozen BK184.out 2; have hfz28_3 := blk_frozen BK184.out 3; have hfz28_4 := blk_frozen BK184.out 4; have hfz28_5 := blk_frozen BK184.out 5))
        go_ret
        exact ⟨by first | rfl | (simp [errW_none, errW_some] <;> rfl) | (simp [*, errW_none, errW_some] <;> rfl), by repeat (first | (with_reducible first | exact HB.out | apply below_alloc | apply pw_below_drewN | apply below_drew1 | refine below_set ?_ GE183.out | refine below_set ?_ GE184.out) | exact HB.out)⟩
    · rw [if_neg c4] at H
      have c4b0 : (a0_1.toList == a1_1.toList) = false := beq_eq_false_iff_ne.mpr c4
      have c4b1 : (a0_1.toList != a1_1.toList) = true := bne_iff_ne.mpr c4
      obtain rfl := Option.some.inj H
      go_enter Tryd.func10, Tryd.ntmps10
      go_wp2_with (first | ((with_reducible refine gate_dst (N := 2) rfl ?_); refine box_event ?hg (N := 2) ?hd (cs := #[.int .i64 a0_0, .string a0_1, .string a0_2, .slice A0_3 l0_3.length c0_3, .string a0_4, .string a0_5]) (t := 31) ?hr ?_; (case hd => rfl); (case hg => rfl); (case hr => first | (go_simp; done) | (go_simp; rfl)); intro gb183 hg w29 hbox hb; have n0_ := Aside0.mk (below_step (by repeat (first | (with_reducible first | exact HB.out | apply below_alloc | apply pw_below_drewN | apply below_drew1) | exact HB.out)) hb); have n1_ := Aside0.mk (hbox); have n2_ := Aside0.mk ((by rw [hg]; exact (below_size (by repeat (first | (with_reducible first | exact HB.out | apply below_alloc | apply pw_below_drewN | apply below_drew1) | exact HB.out))) : w.heap.size ≤ gb183)); have n3_ := Aside0.mk ((by rw [hg]; exact (below_size (by repeat (first | (with_reducible first | exact HB.out | apply below_alloc | apply pw_below_drewN | apply below_drew1) | exact HB.out))) : w.heap.size ≤ gb183)); clear HB; have HB := n0_; have BK183 := n1_; have GW183 := n2_; have GE183 := n3_; clear n0_ n1_ n2_ n3_; clear hb hbox hg) | ((with_reducible refine gate_dst (N := 3) rfl ?_); refine box_event ?hg (N := 3) ?hd (cs := #[.int .i64 a1_0, .string a1_1, .string a1_2, .slice A1_3 l1_3.length c1_3, .string a1_4, .string a1_5]) (t := 31) ?hr ?_; (case hd => rfl); (case hg => rfl); (case hr => first | (go_simp; done) | (go_simp; rfl)); intro gb184 hg w30 hbox hb; have n0_ := Aside0.mk (blk_below (g := gb183) (o := .cells #[.int .i64 a0_0, .string a0_1, .string a0_2, .slice A0_3 l0_3.length c0_3, .string a0_4, .string a0_5] 31 (0, 0)) (by (with_reducible repeat (first | refine blk_drewN ?_ _ | refine blk_drew ?_ | refine blk_alloc ?_ _)); exact BK183.out) hb); have n1_ := Aside0.mk (below_step (by repeat (first | (with_reducible first | exact HB.out | apply below_alloc | apply pw_below_drewN | apply below_drew1 | refine below_set ?_ GE183.out) | exact HB.out)) hb); have n2_ := Aside0.mk (hbox); have n3_ := Aside0.mk ((by rw [hg]; exact (below_size (by repeat (first | (with_reducible first | exact HB.out | apply below_alloc | apply pw_below_drewN | apply below_drew1 | refine below_set ?_ GE183.out) | exact HB.out))) : w.heap.size ≤ gb184)); have n4_ := Aside0.mk ((by rw [hg]; exact (below_size (by repeat (first | (with_reducible first | exact HB.out | apply below_alloc | apply pw_below_drewN | apply below_drew1 | refine below_set ?_ GE183.out) | exact HB.out))) : w.heap.size ≤ gb184)); have n5_ := Aside0.mk ((by rw [hg]; exact Nat.ne_of_lt (blk_lt (g := gb183) (o := .cells #[.int .i64 a0_0, .string a0_1, .string a0_2, .slice A0_3 l0_3.length c0_3, .string a0_4, .string a0_5] 31 (0, 0)) (by (with_reducible repeat (first | refine blk_drewN ?_ _ | refine blk_drew ?_ | refine blk_alloc ?_ _)); exact BK183.out)) : gb183 ≠ gb184)); have n6_ := Aside0.mk ((by rw [hg]; exact Nat.ne_of_gt (blk_lt (g := gb183) (o := .cells #[.int .i64 a0_0, .string a0_1, .string a0_2, .slice A0_3 l0_3.length c0_3, .string a0_4, .string a0_5] 31 (0, 0)) (by (with_reducible repeat (first | refine blk_drewN ?_ _ | refine blk_drew ?_ | refine blk_alloc ?_ _)); exact BK183.out)) : gb184 ≠ gb183)); clear BK183; clear HB; have BK183 := n0_; have HB := n1_; have BK184 := n2_; have GW184 := n3_; have GE184 := n4_; have NB183_184 := n5_; have NB184_183 := n6_; clear n0_ n1_ n2_ n3_ n4_ n5_ n6_; clear hb hbox hg; have hnb31 := NB183_184.out; have hnc31 := NB184_183.out; have hcz32_0 : w30.cell? ⟨gb183, 0, none⟩ = some (.int .i64 a0_0) := (blk_cell BK183.out 0).trans rfl; have hcz32_1 : w30.cell? ⟨gb183, 1, none⟩ = some (.string a0_1) := (blk_cell BK183.out 1).trans rfl; have hcz32_2 : w30.cell? ⟨gb183, 2, none⟩ = some (.string a0_2) := (blk_cell BK183.out 2).trans rfl; have hcz32_3 : w30.cell? ⟨gb183, 3, none⟩ = some (.slice A0_3 l0_3.length c0_3) := (blk_cell BK183.out 3).trans rfl; have hcz32_4 : w30.cell? ⟨gb183, 4, none⟩ = some (.string a0_4) := (blk_cell BK183.out 4).trans rfl; have hcz32_5 : w30.cell? ⟨gb183, 5, none⟩ = some (.string a0_5) := (blk_cell BK183.out 5).trans rfl; have hfz32_0 := blk_frozen BK183.out 0; have hfz32_1 := blk_frozen BK183.out 1; have hfz32_2 := blk_frozen BK183.out 2; have hfz32_3 := blk_frozen BK183.out 3; have hfz32_4 := blk_frozen BK183.out 4; have hfz32_5 := blk_frozen BK183.out 5; have hcz33_0 : w30.cell? ⟨gb184, 0, none⟩ = some (.int .i64 a1_0) := (blk_cell BK184.out 0).trans rfl; have hcz33_1 : w30.cell? ⟨gb184, 1, none⟩ = some (.string a1_1) := (blk_cell BK184.out 1).trans rfl; have hcz33_2 : w30.cell? ⟨gb184, 2, none⟩ = some (.string a1_2) := (blk_cell BK184.out 2).trans rfl; have hcz33_3 : w30.cell? ⟨gb184, 3, none⟩ = some (.slice A1_3 l1_3.length c1_3) := (blk_cell BK184.out 3).trans rfl; have hcz33_4 : w30.cell? ⟨gb184, 4, none⟩ = some (.string a1_4) := (blk_cell BK184.out 4).trans rfl; have hcz33_5 : w30.cell? ⟨gb184, 5, none⟩ = some (.string a1_5) := (blk_cell BK184.out 5).trans rfl; have hfz33_0 := blk_frozen BK184.out 0; have hfz33_1 := blk_frozen BK184.out 1; have hfz33_2 := blk_frozen BK184.out 2; have hfz33_3 := blk_frozen BK184.out 3; have hfz33_4 := blk_frozen BK184.out 4; have hfz33_5 := blk_frozen BK184.out 5))
      go_ret
      exact ⟨by first | rfl | (simp [errW_none, errW_some] <;> rfl) | (simp [*, errW_none, errW_some] <;> rfl), by repeat (first | (with_reducible first | exact HB.out | apply below_alloc | apply pw_below_drewN | apply below_drew1 | refine below_set ?_ GE183.out | refine below_set ?_ GE184.out) | exact HB.out)⟩
  · rw [if_neg c3] at H
    have c3b0 : (a0_0 == a1_0) = false := beq_eq_false_iff_ne.mpr c3
    have c3b1 : (a0_0 != a1_0) = true := bne_iff_ne.mpr c3
    obtain rfl := Option.some.inj H
    go_enter Tryd.func10, Tryd.ntmps10
    go_wp2_with (first | ((with_reducible refine gate_dst (N := 2) rfl ?_); refine box_event ?hg (N := 2) ?hd (cs := #[.int .i64 a0_0, .string a0_1, .string a0_2, .slice A0_3 l0_3.length c0_3, .string a0_4, .string a0_5]) (t := 31) ?hr ?_; (case hd => rfl); (case hg => rfl); (case hr => first | (go_simp; done) | (go_simp; rfl)); intro gb183 hg w34 hbox hb; have n0_ := Aside0.mk (below_step (by repeat (first | (with_reducible first | exact HB.out | apply below_alloc | apply pw_below_drewN | apply below_drew1) | exact HB.out)) hb); have n1_ := Aside0.mk (hbox); have n2_ := Aside0.mk ((by rw [hg]; exact (below_size (by repeat (first | (with_reducible first | exact HB.out | apply below_alloc | apply pw_below_drewN | apply below_drew1) | exact HB.out))) : w.heap.size ≤ gb183)); have n3_ := Aside0.mk ((by rw [hg]; exact (below_size (by repeat (first | (with_reducible first | exact HB.out | apply below_alloc | apply pw_below_drewN | apply below_drew1) | exact HB.out))) : w.heap.size ≤ gb183)); clear HB; have HB := n0_; have BK183 := n1_; have GW183 := n2_; have GE183 := n3_; clear n0_ n1_ n2_ n3_; clear hb hbox hg) | ((with_reducible refine gate_dst (N := 3) rfl ?_); refine box_event ?hg (N := 3) ?hd (cs := #[.int .i64 a1_0, .string a1_1, .string a1_2, .slice A1_3 l1_3.length c1_3, .string a1_4, .string a1_5]) (t := 31) ?hr ?_; (case hd => rfl); (case hg => rfl); (case hr => first | (go_simp; done) | (go_simp; rfl)); intro gb184 hg w35 hbox hb; have n0_ := Aside0.mk (blk_below (g := gb183) (o := .cells #[.int .i64 a0_0, .string a0_1, .string a0_2, .slice A0_3 l0_3.length c0_3, .string a0_4, .string a0_5] 31 (0, 0)) (by (with_reducible repeat (first | refine blk_drewN ?_ _ | refine blk_drew ?_ | refine blk_alloc ?_ _)); exact BK183.out) hb); have n1_ := Aside0.mk (below_step (by repeat (first | (with_reducible first | exact HB.out | apply below_alloc | apply pw_below_drewN | apply below_drew1 | refine below_set ?_ GE183.out) | exact HB.out)) hb); have n2_ := Aside0.mk (hbox); have n3_ := Aside0.mk ((by rw [hg]; exact (below_size (by repeat (first | (with_reducible first | exact HB.out | apply below_alloc | apply pw_below_drewN | apply below_drew1 | refine below_set ?_ GE183.out) | exact HB.out))) : w.heap.size ≤ gb184)); have n4_ := Aside0.mk ((by rw [hg]; exact (below_size (by repeat (first | (with_reducible first | exact HB.out | apply below_alloc | apply pw_below_drewN | apply below_drew1 | refine below_set ?_ GE183.out) | exact HB.out))) : w.heap.size ≤ gb184)); have n5_ := Aside0.mk ((by rw [hg]; exact Nat.ne_of_lt (blk_lt (g := gb183) (o := .cells #[.int .i64 a0_0, .string a0_1, .string a0_2, .slice A0_3 l0_3.length c0_3, .string a0_4, .string a0_5] 31 (0, 0)) (by (with_reducible repeat (first | refine blk_drewN ?_ _ | refine blk_drew ?_ | refine blk_alloc ?_ _)); exact BK183.out)) : gb183 ≠ gb184)); have n6_ := Aside0.mk ((by rw [hg]; exact Nat.ne_of_gt (blk_lt (g := gb183) (o := .cells #[.int .i64 a0_0, .string a0_1, .string a0_2, .slice A0_3 l0_3.length c0_3, .string a0_4, .string a0_5] 31 (0, 0)) (by (with_reducible repeat (first | refine blk_drewN ?_ _ | refine blk_drew ?_ | refine blk_alloc ?_ _)); exact BK183.out)) : gb184 ≠ gb183)); clear BK183; clear HB; have BK183 := n0_; have HB := n1_; have BK184 := n2_; have GW184 := n3_; have GE184 := n4_; have NB183_184 := n5_; have NB184_183 := n6_; clear n0_ n1_ n2_ n3_ n4_ n5_ n6_; clear hb hbox hg; have hnb36 := NB183_184.out; have hnc36 := NB184_183.out; have hcz37_0 : w35.cell? ⟨gb183, 0, none⟩ = some (.int .i64 a0_0) := (blk_cell BK183.out 0).trans rfl; have hcz37_1 : w35.cell? ⟨gb183, 1, none⟩ = some (.string a0_1) := (blk_cell BK183.out 1).trans rfl; have hcz37_2 : w35.cell? ⟨gb183, 2, none⟩ = some (.string a0_2) := (blk_cell BK183.out 2).trans rfl; have hcz37_3 : w35.cell? ⟨gb183, 3, none⟩ = some (.slice A0_3 l0_3.length c0_3) := (blk_cell BK183.out 3).trans rfl; have hcz37_4 : w35.cell? ⟨gb183, 4, none⟩ = some (.string a0_4) := (blk_cell BK183.out 4).trans rfl; have hcz37_5 : w35.cell? ⟨gb183, 5, none⟩ = some (.string a0_5) := (blk_cell BK183.out 5).trans rfl; have hfz37_0 := blk_frozen BK183.out 0; have hfz37_1 := blk_frozen BK183.out 1; have hfz37_2 := blk_frozen BK183.out 2; have hfz37_3 := blk_frozen BK183.out 3; have hfz37_4 := blk_frozen BK183.out 4; have hfz37_5 := blk_frozen BK183.out 5; have hcz38_0 : w35.cell? ⟨gb184, 0, none⟩ = some (.int .i64 a1_0) := (blk_cell BK184.out 0).trans rfl; have hcz38_1 : w35.cell? ⟨gb184, 1, none⟩ = some (.string a1_1) := (blk_cell BK184.out 1).trans rfl; have hcz38_2 : w35.cell? ⟨gb184, 2, none⟩ = some (.string a1_2) := (blk_cell BK184.out 2).trans rfl; have hcz38_3 : w35.cell? ⟨gb184, 3, none⟩ = some (.slice A1_3 l1_3.length c1_3) := (blk_cell BK184.out 3).trans rfl; have hcz38_4 : w35.cell? ⟨gb184, 4, none⟩ = some (.string a1_4) := (blk_cell BK184.out 4).trans rfl; have hcz38_5 : w35.cell? ⟨gb184, 5, none⟩ = some (.string a1_5) := (blk_cell BK184.out 5).trans rfl; have hfz38_0 := blk_frozen BK184.out 0; have hfz38_1 := blk_frozen BK184.out 1; have hfz38_2 := blk_frozen BK184.out 2; have hfz38_3 := blk_frozen BK184.out 3; have hfz38_4 := blk_frozen BK184.out 4; have hfz38_5 := blk_frozen BK184.out 5))
    go_ret
    exact ⟨by first | rfl | (simp [errW_none, errW_some] <;> rfl) | (simp [*, errW_none, errW_some] <;> rfl), by repeat (first | (with_reducible first | exact HB.out | apply below_alloc | apply pw_below_drewN | apply below_drew1 | refine below_set ?_ GE183.out | refine below_set ?_ GE184.out) | exact HB.out)⟩

/-! ### monticuleref01_octets: function 53 -/
def monticuleref01_octets.l0 : Nat → Int → Int → ByteArray → Int → Option (ByteArray)
  | 0, _, _, _, _ => none
  | k + 1, x0, x1, x5, x6 => if x6 < x1 then ((some (([(Int.tmod x0 256) % 256] : List Int) : List Int)).bind fun y186 => (if (strOfNums y186).size + x5.size ≤ 9223372036854775807 then (monticuleref01_octets.l0 k (IntKind.u64.wrap (Int.tdiv x0 256)) x1 ((strOfNums y186) ++ x5) (wrap64 (x6 + 1))) else (none))) else (some x5)
def monticuleref01_octets.f (k : Nat) (a0 : Int) (a1 : Int) : Option (ByteArray) := monticuleref01_octets.l0 k a0 a1 (⟨#[]⟩ : ByteArray) 0
theorem monticuleref01_octets.mono_l : ∀ k, (∀ y0 y1 y2 y3, LeO (monticuleref01_octets.l0 k y0 y1 y2 y3) (monticuleref01_octets.l0 (k + 1) y0 y1 y2 y3))
  | 0 => fun _ _ _ _ r h => by simp [monticuleref01_octets.l0] at h
  | k + 1 => by
    have ih0 := monticuleref01_octets.mono_l k
    · intro y0 y1 y2 y3
      unfold monticuleref01_octets.l0
      repeat' first
      | (with_reducible exact ih0 _ _ _ _)
      | (with_reducible exact LeO.refl _)
      | (with_reducible exact LeO.none _)
      | (with_reducible refine LeO.ite ?_ ?_)
      | (with_reducible refine LeO.bind ?_ (fun _ => ?_))
      | exact ih0 _ _ _ _
      | exact LeO.none _
      | refine LeO.ite ?_ ?_
      | refine LeO.bind ?_ (fun _ => ?_)
theorem monticuleref01_octets.mono : ∀ a0 a1 k, LeO (monticuleref01_octets.f k a0 a1) (monticuleref01_octets.f (k + 1) a0 a1) := by
  intro a0 a1 k
  have ih0 := monticuleref01_octets.mono_l k
  unfold monticuleref01_octets.f
  repeat' first
      | (with_reducible exact ih0 _ _ _ _)
      | (with_reducible exact LeO.refl _)
      | (with_reducible exact LeO.none _)
      | (with_reducible refine LeO.ite ?_ ?_)
      | (with_reducible refine LeO.bind ?_ (fun _ => ?_))
      | exact ih0 _ _ _ _
      | exact LeO.none _
      | refine LeO.ite ?_ ?_
      | refine LeO.bind ?_ (fun _ => ?_)
set_option maxHeartbeats 8000000 in
set_option maxRecDepth 100000 in
theorem monticuleref01_octets.calls (k : Nat) (a0 : Int) (a1 : Int) (r : ByteArray) (w : World) (h : monticuleref01_octets.f k a0 a1 = some r) :
    Calls Tryd.prog 53 #[.int .u64 a0, .int .i64 a1] w fun e w' => e = .returned (.string r) ∧ Below w.heap.size w w' := by
  have HB := Aside0.mk (Below.refl w.heap.size w)
  have H : (monticuleref01_octets.l0 k a0 a1 (⟨#[]⟩ : ByteArray) 0) = some r := h
  clear h
  have H' := Aside0.mk H
  clear H
  go_enter Tryd.func53, Tryd.ntmps53
  go_wp2
  go_loopg [0, 5, 6] k (fun kq v0 v5 v6 w' => ∃ (x0_1 : Int) (x5_1 : ByteArray) (x6_1 : Int), v0 = .int .u64 x0_1 ∧ v5 = .string x5_1 ∧ v6 = .int .i64 x6_1 ∧ Aside0 (monticuleref01_octets.l0 kq x0_1 a1 x5_1 x6_1 = some r) ∧ Aside0 (kq ≤ k) ∧ Aside0 (Below w.heap.size w w'))
  case atStart => exact ⟨(a0), ((⟨#[]⟩ : ByteArray)), (0), (by first | rfl | (simp; done) | (simp [*]; done)), (by first | rfl | (simp; done) | (simp [*]; done)), (by first | rfl | (simp; done) | (simp [*]; done)), H', ⟨Nat.le_refl _⟩, ⟨by repeat (first | (with_reducible first | exact HB.out | apply below_alloc | apply pw_below_drewN | apply below_drew1) | exact HB.out)⟩⟩
  case round =>
    clear H'
    try clear p2
    obtain ⟨x0_1, x5_1, x6_1, rfl, rfl, rfl, HA, HK1, HB⟩ := hrel
    cases gk with
    | zero => exact absurd HA.out (by simp [monticuleref01_octets.l0])
    | succ k1 =>
      have H := HA.out
      clear HA
      simp only [monticuleref01_octets.l0] at H
      by_cases c3 : x6_1 < a1
      · rw [if_pos c3] at H
        have c3b0 : decide (x6_1 < a1) = true := decide_eq_true c3
        clear c3
        obtain ⟨y186, hy186⟩ : ∃ y_ : List Int, y_ = (([(Int.tmod x0_1 256) % 256] : List Int)) := ⟨_, rfl⟩
        replace H : (if (strOfNums y186).size + x5_1.size ≤ 9223372036854775807 then (monticuleref01_octets.l0 k1 (IntKind.u64.wrap (Int.tdiv x0_1 256)) a1 ((strOfNums y186) ++ x5_1) (wrap64 (x6_1 + 1))) else (none)) = some r := by first | (rw [hy186]; with_reducible exact H) | (have H2_ := (Option.bind_some _ _).symm.trans H; rw [hy186]; with_reducible exact H2_) | (have H2_ := (Option.bind_some _ _).symm.trans H; with_reducible exact H2_) | with_reducible exact H | (rw [hy186]; exact H) | exact H
        have Ny186 := Aside0.mk hy186
        clear hy186
        by_cases c4 : (strOfNums y186).size + x5_1.size ≤ 9223372036854775807
        · rw [if_pos c4] at H
          have c4b0 := eq_true c4
          have c4b1 : decide ((strOfNums y186).size + x5_1.size ≤ 9223372036854775807) = true := decide_eq_true c4
          try have c4b2 : (9223372036854775807 < (strOfNums y186).size + x5_1.size) = False := eq_false (Nat.not_lt.2 c4)
          have H' := Aside0.mk H
          clear H
          go_wp2_with (first | ((with_reducible refine gate_dst (N := 15) rfl ?_); refine Kd.R_lit (Kd.int .u8) _ 5 ?hg (N := 15) ?hd (xs := ([(Int.tmod x0_1 256) % 256] : List Int)) (inner := [.int .u8 ((Int.tmod x0_1 256) % 256)]) (ok := fun _ => True) (okp := fun _ => True) ?hr ?hp (fun _ hk => hk) trivial (Below.refl _ _) (Nat.le_refl _) (by simp) ?_; (case hd => rfl); (case hg => rfl); (case hr => first | (go_simp; done) | (go_simp; rfl)); (case hp => exact (Reps.one (show Kd.M (Kd.int .u8) _ _ _ ((Int.tmod x0_1 256) % 256) [.int .u8 ((Int.tmod x0_1 256) % 256)] from rfl) (Reps.none _ _))); intro v187 w5 ho6 hb hg_ hnew_; clear hg_ hnew_; (first | rw [← Ny186.out] at ho6 | (simp only [Int.reduceToNat] at ho6; rw [← Ny186.out] at ho6)); have n0_ := Aside0.mk (Kd.R_lower ho6 (below_size (by repeat (first | (with_reducible first | exact HB.out | apply below_alloc | apply pw_below_drewN | apply below_drew1) | exact HB.out)))); have n1_ := Aside0.mk (below_step (by repeat (first | (with_reducible first | exact HB.out | apply below_alloc | apply pw_below_drewN | apply below_drew1) | exact HB.out)) hb); clear HB; have HO188 := n0_; have HB := n1_; clear n0_ n1_; clear hb ho6; have hcv7 := own_string (P := Tryd.prog) Tryd.underlying22 Tryd.underlying5 Tryd.underlying9 (Kd.own_of_R HO188.out)))
          go_roundg k1
          case measure => have := HK1.out; omega
          case rel => exact ⟨(IntKind.u64.wrap (Int.tdiv x0_1 256)), ((strOfNums y186) ++ x5_1), (wrap64 (x6_1 + 1)), (by first | rfl | (simp; done) | (simp [*]; done)), (by first | rfl | (simp; done) | (simp [*]; done)), (by first | rfl | (simp; done) | (simp [*]; done)), H', ⟨by have := HK1.out; omega⟩, ⟨by repeat (first | (with_reducible first | exact HB.out | apply below_alloc | apply pw_below_drewN | apply below_drew1) | exact HB.out)⟩⟩
        · rw [if_neg c4] at H
          exact absurd H (by simp)
      · rw [if_neg c3] at H
        have c3b0 : decide (x6_1 < a1) = false := decide_eq_false c3
        clear c3
        obtain rfl := Option.some.inj H
        go_wp2
        go_ret
        exact ⟨by first | rfl | (simp [errW_none, errW_some] <;> rfl) | (simp [*, errW_none, errW_some] <;> rfl), by repeat (first | (with_reducible first | exact HB.out | apply below_alloc | apply pw_below_drewN | apply below_drew1) | exact HB.out)⟩

/-! ### monticuleref01_Num: function 25 -/
def monticuleref01_Num.f (k : Nat) (a0 : Int) : Option (ByteArray × Bool) := if a0 < 0 then (some ((⟨#[]⟩ : ByteArray), false)) else (if a0 > 2147483647 then (some ((⟨#[]⟩ : ByteArray), false)) else ((monticuleref01_octets.f k (IntKind.u64.wrap (a0)) 4).bind fun t189 => (some (t189, true))))
theorem monticuleref01_Num.mono : ∀ a0 k, LeO (monticuleref01_Num.f k a0) (monticuleref01_Num.f (k + 1) a0) := by
  intro a0 k
  unfold monticuleref01_Num.f
  repeat' first
      | (with_reducible exact monticuleref01_octets.mono _ _ _)
      | (with_reducible exact LeO.refl _)
      | (with_reducible exact LeO.none _)
      | (with_reducible refine LeO.ite ?_ ?_)
      | (with_reducible refine LeO.bind ?_ (fun _ => ?_))
      | exact monticuleref01_octets.mono _ _ _
      | exact LeO.none _
      | refine LeO.ite ?_ ?_
      | refine LeO.bind ?_ (fun _ => ?_)
set_option maxHeartbeats 8000000 in
set_option maxRecDepth 100000 in
theorem monticuleref01_Num.calls (k : Nat) (a0 : Int) (r1 : ByteArray) (r2 : Bool) (w : World) (h : monticuleref01_Num.f k a0 = some (r1, r2)) :
    Calls Tryd.prog 25 #[.int .i64 a0] w fun e w' => e = .returned (.tuple #[.string r1, .bool r2]) ∧ Below w.heap.size w w' := by
  have HB := Aside0.mk (Below.refl w.heap.size w)
  have H : (if a0 < 0 then (some ((⟨#[]⟩ : ByteArray), false)) else (if a0 > 2147483647 then (some ((⟨#[]⟩ : ByteArray), false)) else ((monticuleref01_octets.f k (IntKind.u64.wrap (a0)) 4).bind fun t189 => (some (t189, true))))) = some (r1, r2) := h
  clear h
  by_cases c2 : a0 < 0
  · rw [if_pos c2] at H
    have c2b0 : decide (a0 < 0) = true := decide_eq_true c2
    clear c2
    simp only [Option.some.injEq, Prod.mk.injEq] at H
    obtain ⟨rfl, rfl⟩ := H
    go_enter Tryd.func25, Tryd.ntmps25
    go_wp2
    go_ret2
    exact ⟨by first | rfl | (simp [errW_none, errW_some] <;> rfl) | (simp [*, errW_none, errW_some] <;> rfl), by repeat (first | (with_reducible first | exact HB.out | apply below_alloc | apply pw_below_drewN | apply below_drew1) | exact HB.out)⟩
  · rw [if_neg c2] at H
    have c2b0 : decide (a0 < 0) = false := decide_eq_false c2
    clear c2
    by_cases c3 : a0 > 2147483647
    · rw [if_pos c3] at H
      have c3b0 : decide (2147483647 < a0) = true := decide_eq_true c3
      clear c3
      simp only [Option.some.injEq, Prod.mk.injEq] at H
      obtain ⟨rfl, rfl⟩ := H
      go_enter Tryd.func25, Tryd.ntmps25
      go_wp2
      go_ret2
      exact ⟨by first | rfl | (simp [errW_none, errW_some] <;> rfl) | (simp [*, errW_none, errW_some] <;> rfl), by repeat (first | (with_reducible first | exact HB.out | apply below_alloc | apply pw_below_drewN | apply below_drew1) | exact HB.out)⟩
    · rw [if_neg c3] at H
      have c3b0 : decide (2147483647 < a0) = false := decide_eq_false c3
      clear c3
      replace H := Option.bind_eq_some_iff.mp H
      obtain ⟨t189, A40, H⟩ := H
      replace H : (some (t189, true)) = some (r1, r2) := H
      have A4 := Aside0.mk A40
      clear A40
      simp only [Option.some.injEq, Prod.mk.injEq] at H
      obtain ⟨rfl, rfl⟩ := H
      go_enter Tryd.func25, Tryd.ntmps25
      go_wp2_with (first | ((with_reducible refine gate_callee (f := 53) rfl ?_); refine goesL_ (some 12) rfl rfl Tryd.func53 (by kernel_rfl) rfl #[.int .u64 (IntKind.u64.wrap (a0)), .int .i64 4] rfl (by (try simp only [List.map_toArray, List.map_cons, List.map_nil]); first | done | rfl | (simp only [List.length_drop, List.length_take]; rfl)) ?_; (with_reducible refine (monticuleref01_octets.calls k (IntKind.u64.wrap (a0)) 4 t189 _ A4.out).mono ?_); rintro e w5 ⟨rfl, hb⟩; refine ⟨_, rfl, ?_⟩; have n0_ := Aside0.mk (below_step (by repeat (first | (with_reducible first | exact HB.out | apply below_alloc | apply pw_below_drewN | apply below_drew1) | exact HB.out)) hb); clear HB; have HB := n0_; clear n0_; (try clear hb); (try clear hb2); (try clear hk); (try clear hi)))
      go_ret2
      exact ⟨by first | rfl | (simp [errW_none, errW_some] <;> rfl) | (simp [*, errW_none, errW_some] <;> rfl), by repeat (first | (with_reducible first | exact HB.out | apply below_alloc | apply pw_below_drewN | apply below_drew1) | exact HB.out)⟩

/-! ### monticuleref01_Text: function 54 -/
def monticuleref01_Text.f (k : Nat) (a0 : ByteArray) : Option (ByteArray) := (monticuleref01_Num.f k (a0.size : Int)).bind fun bt190 => (if bt190.1.size + a0.size ≤ 9223372036854775807 then (some (bt190.1 ++ a0)) else (none))
theorem monticuleref01_Text.mono : ∀ a0 k, LeO (monticuleref01_Text.f k a0) (monticuleref01_Text.f (k + 1) a0) := by
  intro a0 k
  unfold monticuleref01_Text.f
  repeat' first
      | (with_reducible exact monticuleref01_Num.mono _ _)
      | (with_reducible exact LeO.refl _)
      | (with_reducible exact LeO.none _)
      | (with_reducible refine LeO.ite ?_ ?_)
      | (with_reducible refine LeO.bind ?_ (fun _ => ?_))
      | exact monticuleref01_Num.mono _ _
      | exact LeO.none _
      | refine LeO.ite ?_ ?_
      | refine LeO.bind ?_ (fun _ => ?_)
set_option maxHeartbeats 8000000 in
set_option maxRecDepth 100000 in
theorem monticuleref01_Text.calls (k : Nat) (a0 : ByteArray) (r : ByteArray) (w : World) (h : monticuleref01_Text.f k a0 = some r) :
    Calls Tryd.prog 54 #[.string a0] w fun e w' => e = .returned (.string r) ∧ Below w.heap.size w w' := by
  have HB := Aside0.mk (Below.refl w.heap.size w)
  have H : ((monticuleref01_Num.f k (a0.size : Int)).bind fun bt190 => (if bt190.1.size + a0.size ≤ 9223372036854775807 then (some (bt190.1 ++ a0)) else (none))) = some r := h
  clear h
  replace H := Option.bind_eq_some_iff.mp H
  obtain ⟨⟨t190, t191⟩, A20, H⟩ := H
  replace H : (if t190.size + a0.size ≤ 9223372036854775807 then (some (t190 ++ a0)) else (none)) = some r := H
  have A2 := Aside0.mk A20
  clear A20
  by_cases c3 : t190.size + a0.size ≤ 9223372036854775807
  · rw [if_pos c3] at H
    have c3b0 := eq_true c3
    have c3b1 : decide (t190.size + a0.size ≤ 9223372036854775807) = true := decide_eq_true c3
    try have c3b2 : (9223372036854775807 < t190.size + a0.size) = False := eq_false (Nat.not_lt.2 c3)
    obtain rfl := Option.some.inj H
    go_enter Tryd.func54, Tryd.ntmps54
    go_wp2_with (first | ((with_reducible refine gate_callee (f := 25) rfl ?_); refine goesL_ (some 8) rfl rfl Tryd.func25 (by kernel_rfl) rfl #[.int .i64 (a0.size : Int)] rfl (by (try simp only [List.map_toArray, List.map_cons, List.map_nil]); first | done | rfl | (simp only [List.length_drop, List.length_take]; rfl)) ?_; (with_reducible refine (monticuleref01_Num.calls k (a0.size : Int) t190 t191 _ A2.out).mono ?_); rintro e w4 ⟨rfl, hb⟩; refine ⟨_, rfl, ?_⟩; have n0_ := Aside0.mk (below_step (by repeat (first | (with_reducible first | exact HB.out | apply below_alloc | apply pw_below_drewN | apply below_drew1) | exact HB.out)) hb); clear HB; have HB := n0_; clear n0_; (try clear hb); (try clear hb2); (try clear hk); (try clear hi)))
    go_ret
    exact ⟨by first | rfl | (simp [errW_none, errW_some] <;> rfl) | (simp [*, errW_none, errW_some] <;> rfl), by repeat (first | (with_reducible first | exact HB.out | apply below_alloc | apply pw_below_drewN | apply below_drew1) | exact HB.out)⟩
  · rw [if_neg c3] at H
    exact absurd H (by simp)

/-! ### monticuleref01_Texts: function 55 -/
def monticuleref01_Texts.l0 : Nat → List ByteArray → ByteArray → Int → Option (ByteArray)
  | 0, _, _, _ => none
  | k + 1, x0, x3, x5 => if x5 < (x0.length : Int) then (if 0 ≤ x5 then ((monticuleref01_Text.f k (rdOf ByteArray.empty x0 x5)).bind fun t195 => (if x3.size + t195.size ≤ 9223372036854775807 then (monticuleref01_Texts.l0 k x0 (x3 ++ t195) (wrap64 (x5 + 1))) else (none))) else (none)) else (some x3)
def monticuleref01_Texts.f (k : Nat) (l0 : List ByteArray) : Option (ByteArray) := (monticuleref01_Num.f k (l0.length : Int)).bind fun bt192 => (monticuleref01_Texts.l0 k l0 bt192.1 0)
theorem monticuleref01_Texts.mono_l : ∀ k, (∀ y0 y1 y2, LeO (monticuleref01_Texts.l0 k y0 y1 y2) (monticuleref01_Texts.l0 (k + 1) y0 y1 y2))
  | 0 => fun _ _ _ r h => by simp [monticuleref01_Texts.l0] at h
  | k + 1 => by
    have ih0 := monticuleref01_Texts.mono_l k
    · intro y0 y1 y2
      unfold monticuleref01_Texts.l0
      repeat' first
      | (with_reducible exact ih0 _ _ _)
      | (with_reducible exact monticuleref01_Num.mono _ _)
      | (with_reducible exact monticuleref01_Text.mono _ _)
      | (with_reducible exact LeO.refl _)
      | (with_reducible exact LeO.none _)
      | (with_reducible refine LeO.ite ?_ ?_)
      | (with_reducible refine LeO.bind ?_ (fun _ => ?_))
      | exact ih0 _ _ _
      | exact monticuleref01_Num.mono _ _
      | exact monticuleref01_Text.mono _ _
      | exact LeO.none _
      | refine LeO.ite ?_ ?_
      | refine LeO.bind ?_ (fun _ => ?_)
theorem monticuleref01_Texts.mono : ∀ a0 k, LeO (monticuleref01_Texts.f k a0) (monticuleref01_Texts.f (k + 1) a0) := by
  intro a0 k
  have ih0 := monticuleref01_Texts.mono_l k
  unfold monticuleref01_Texts.f
  repeat' first
      | (with_reducible exact ih0 _ _ _)
      | (with_reducible exact monticuleref01_Num.mono _ _)
      | (with_reducible exact monticuleref01_Text.mono _ _)
      | (with_reducible exact LeO.refl _)
      | (with_reducible exact LeO.none _)
      | (with_reducible refine LeO.ite ?_ ?_)
      | (with_reducible refine LeO.bind ?_ (fun _ => ?_))
      | exact ih0 _ _ _
      | exact monticuleref01_Num.mono _ _
      | exact monticuleref01_Text.mono _ _
      | exact LeO.none _
      | refine LeO.ite ?_ ?_
      | refine LeO.bind ?_ (fun _ => ?_)
set_option maxHeartbeats 8000000 in
set_option maxRecDepth 100000 in
theorem monticuleref01_Texts.calls (k : Nat) (A0 : Option Addr) (c0 : Nat) (l0 : List ByteArray) (r : ByteArray) (w : World) (hr0 : Kd.C Kd.string w A0 l0.length l0) (hc0 : l0.length ≤ c0) (h : monticuleref01_Texts.f k l0 = some r) :
    Calls Tryd.prog 55 #[.slice A0 l0.length c0] w fun e w' => e = .returned (.string r) ∧ Below w.heap.size w w' := by
  have HR0 := Aside0.mk hr0
  have HC0 := Aside0.mk hc0
  clear hr0 hc0
  have HB := Aside0.mk (Below.refl w.heap.size w)
  have H : ((monticuleref01_Num.f k (l0.length : Int)).bind fun bt192 => (monticuleref01_Texts.l0 k l0 bt192.1 0)) = some r := h
  clear h
  replace H := Option.bind_eq_some_iff.mp H
  obtain ⟨⟨t192, t193⟩, A20, H⟩ := H
  replace H : (monticuleref01_Texts.l0 k l0 t192 0) = some r := H
  have A2 := Aside0.mk A20
  clear A20
  have H' := Aside0.mk H
  clear H
  go_enter Tryd.func55, Tryd.ntmps55
  go_wp2_with (first | ((with_reducible refine gate_callee (f := 25) rfl ?_); refine goesL_ (some 9) rfl rfl Tryd.func25 (by kernel_rfl) rfl #[.int .i64 (l0.length : Int)] rfl (by (try simp only [List.map_toArray, List.map_cons, List.map_nil]); first | done | rfl | (simp only [List.length_drop, List.length_take]; rfl)) ?_; (with_reducible refine (monticuleref01_Num.calls k (l0.length : Int) t192 t193 _ A2.out).mono ?_); rintro e w3 ⟨rfl, hb⟩; refine ⟨_, rfl, ?_⟩; have n0_ := Aside0.mk (below_step (by repeat (first | (with_reducible first | exact HB.out | apply below_alloc | apply pw_below_drewN | apply below_drew1) | exact HB.out)) hb); clear HB; have HB := n0_; clear n0_; (try clear hb); (try clear hb2); (try clear hk); (try clear hi)))
  go_loopg [3, 5] k (fun kq v3 v5 w' => ∃ (x3_1 : ByteArray) (x5_1 : Int), v3 = .string x3_1 ∧ v5 = .int .i64 x5_1 ∧ Aside0 (monticuleref01_Texts.l0 kq l0 x3_1 x5_1 = some r) ∧ Aside0 (kq ≤ k) ∧ Aside0 (Below w.heap.size w w'))
  case atStart => exact ⟨(t192), (0), (by first | rfl | (simp; done) | (simp [*]; done)), (by first | rfl | (simp; done) | (simp [*]; done)), H', ⟨Nat.le_refl _⟩, ⟨by repeat (first | (with_reducible first | exact HB.out | apply below_alloc | apply pw_below_drewN | apply below_drew1) | exact HB.out)⟩⟩
  case round =>
    clear H'
    try clear c2
    try clear p2
    obtain ⟨x3_1, x5_1, rfl, rfl, HA, HK1, HB⟩ := hrel
    cases gk with
    | zero => exact absurd HA.out (by simp [monticuleref01_Texts.l0])
    | succ k1 =>
      have H := HA.out
      clear HA
      simp only [monticuleref01_Texts.l0] at H
      by_cases c4 : x5_1 < (l0.length : Int)
      · rw [if_pos c4] at H
        have c4b0 : decide (x5_1 < (l0.length : Int)) = true := decide_eq_true c4
        clear c4
        by_cases c5 : 0 ≤ x5_1
        · rw [if_pos c5] at H
          have c5b0 : decide (0 ≤ x5_1) = true := decide_eq_true c5
          clear c5
          replace H := Option.bind_eq_some_iff.mp H
          obtain ⟨t195, A60, H⟩ := H
          replace H : (if x3_1.size + t195.size ≤ 9223372036854775807 then (monticuleref01_Texts.l0 k1 l0 (x3_1 ++ t195) (wrap64 (x5_1 + 1))) else (none)) = some r := H
          have A6 := Aside0.mk A60
          clear A60
          by_cases c7 : x3_1.size + t195.size ≤ 9223372036854775807
          · rw [if_pos c7] at H
            have c7b0 := eq_true c7
            have c7b1 : decide (x3_1.size + t195.size ≤ 9223372036854775807) = true := decide_eq_true c7
            try have c7b2 : (9223372036854775807 < x3_1.size + t195.size) = False := eq_false (Nat.not_lt.2 c7)
            have H' := Aside0.mk H
            clear H
            have p194 : 0 ≤ (x5_1 : Int) := of_decide_eq_true (by first | (with_reducible assumption) | assumption)
            have q194 : x5_1 < (l0.length : Int) := of_decide_eq_true (by first | (with_reducible assumption) | assumption)
            obtain ⟨ad194, e194, hx194_0⟩ := Kd.at_string HR0.out x5_1 p194 q194
            cases e194
            replace hx194_0 := (HB.out.cell (World.block_lt_of_cell? w _ hx194_0)).trans hx194_0
            replace p194 := eq_true p194
            replace q194 := eq_true q194
            go_wp2_with (first | ((with_reducible refine gate_callee (f := 54) rfl ?_); refine goesL_ (some 23) rfl rfl Tryd.func54 (by kernel_rfl) rfl #[.string (rdOf ByteArray.empty l0 x5_1)] rfl (by (try simp only [List.map_toArray, List.map_cons, List.map_nil]); first | done | rfl | (simp only [List.length_drop, List.length_take]; rfl)) ?_; (with_reducible refine (monticuleref01_Text.calls k1 (rdOf ByteArray.empty l0 x5_1) t195 _ A6.out).mono ?_); rintro e w8 ⟨rfl, hb⟩; refine ⟨_, rfl, ?_⟩; have n0_ := Aside0.mk (below_step (by repeat (first | (with_reducible first | exact HB.out | apply below_alloc | apply pw_below_drewN | apply below_drew1) | exact HB.out)) hb); clear HB; have HB := n0_; clear n0_; (try clear hb); (try clear hb2); (try clear hk); (try clear hi)))
            go_roundg k1
            case measure => have := HK1.out; omega
            case rel => exact ⟨(x3_1 ++ t195), (wrap64 (x5_1 + 1)), (by first | rfl | (simp; done) | (simp [*]; done)), (by first | rfl | (simp; done) | (simp [*]; done)), H', ⟨by have := HK1.out; omega⟩, ⟨by repeat (first | (with_reducible first | exact HB.out | apply below_alloc | apply pw_below_drewN | apply below_drew1) | exact HB.out)⟩⟩
          · rw [if_neg c7] at H
            exact absurd H (by simp)
        · rw [if_neg c5] at H
          exact absurd H (by simp)
      · rw [if_neg c4] at H
        have c4b0 : decide (x5_1 < (l0.length : Int)) = false := decide_eq_false c4
        clear c4
        obtain rfl := Option.some.inj H
        go_wp2
        go_ret
        exact ⟨by first | rfl | (simp [errW_none, errW_some] <;> rfl) | (simp [*, errW_none, errW_some] <;> rfl), by repeat (first | (with_reducible first | exact HB.out | apply below_alloc | apply pw_below_drewN | apply below_drew1) | exact HB.out)⟩

end Go.Proofs.YtoiaancehakiiaaDoor.Q
