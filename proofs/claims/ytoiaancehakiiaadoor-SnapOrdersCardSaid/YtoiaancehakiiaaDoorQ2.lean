-- Printed for this claim by a program of the session's own over the kit's printer; Lean checks it.
import Derived.Test.YtoiaancehakiiaaDoorQ0
import Derived.Test.YtoiaancehakiiaaDoorQ1
import Derived.Test.YtoiaancehakiiaaDoorMKw
import Derived.Test.YtoiaancehakiiaaDoorMVars
namespace Go.Proofs.YtoiaancehakiiaaDoor.Q
open Go.RowKit Go.Proofs.YtoiaancehakiiaaDoorW.PrintWords Go.Proofs.YtoiaancehakiiaaDoorW.PrintLast Go.Proofs.YtoiaancehakiiaaDoorW.PrintMore
attribute [local go_sem] max2_int min2_int max_two min_two max_three min_three max_four min_four   -- for this text's walks alone
set_option linter.unusedVariables false
set_option linter.unusedSimpArgs false

/-! ### def_Right: function 33 -/
def def_Right.f (k : Nat) (a0_0 : Int) (a0_1 : ByteArray) (a0_2 : ByteArray) (l0_3 : List ByteArray) (a0_4 : ByteArray) (a0_5 : ByteArray) : Option (Bool) := if a0_0 = 1 then ((name_Class.f a0_1).bind fun t123 => (if t123 = true then ((name_Always.f k a0_1).bind fun t124 => (if t124 = true then (some false) else ((name_Class.f a0_2).bind fun t125 => (if t125 = true then ((def_vars.f l0_3).bind fun t126 => (if t126 = true then (if a0_4.toList = ([] : List UInt8) then (some (a0_5.toList == ([] : List UInt8))) else (some false)) else (some false))) else (some false))))) else (some false))) else (if a0_0 = 2 then ((name_Class.f a0_1).bind fun t127 => (if t127 = true then ((name_Kind.f a0_4).bind fun t128 => (if t128 = 0 then (some false) else (if (a0_5.size : Int) ≤ 4000 then (if a0_2.toList = ([] : List UInt8) then (some ((l0_3.length : Int) == 0)) else (some false)) else (some false)))) else (some false))) else (some false))
theorem def_Right.mono : ∀ a0 a1 a2 a3 a4 a5 k, LeO (def_Right.f k a0 a1 a2 a3 a4 a5) (def_Right.f (k + 1) a0 a1 a2 a3 a4 a5) := by
  intro a0 a1 a2 a3 a4 a5 k
  unfold def_Right.f
  repeat' first
      | (with_reducible exact name_Always.mono _ _)
      | (with_reducible exact LeO.refl _)
      | (with_reducible exact LeO.none _)
      | (with_reducible refine LeO.ite ?_ ?_)
      | (with_reducible refine LeO.bind ?_ (fun _ => ?_))
      | exact name_Always.mono _ _
      | exact LeO.none _
      | refine LeO.ite ?_ ?_
      | refine LeO.bind ?_ (fun _ => ?_)
set_option maxHeartbeats 8000000 in
set_option maxRecDepth 100000 in
theorem def_Right.calls (k : Nat) (a0_0 : Int) (a0_1 : ByteArray) (a0_2 : ByteArray) (A0_3 : Option Addr) (c0_3 : Nat) (l0_3 : List ByteArray) (a0_4 : ByteArray) (a0_5 : ByteArray) (r : Bool) (w : World) (hr0_3 : Kd.C Kd.string w A0_3 l0_3.length l0_3) (hc0_3 : l0_3.length ≤ c0_3) (h : def_Right.f k a0_0 a0_1 a0_2 l0_3 a0_4 a0_5 = some r) :
    Calls Tryd.prog 33 #[.agg #[.int .i64 a0_0, .string a0_1, .string a0_2, .slice A0_3 l0_3.length c0_3, .string a0_4, .string a0_5]] w fun e w' => e = .returned (.bool r) ∧ Below w.heap.size w w' := by
  have hu31 := Tryd.underlying31
  have HR0_3 := Aside0.mk hr0_3
  have HC0_3 := Aside0.mk hc0_3
  clear hr0_3 hc0_3
  have HB := Aside0.mk (Below.refl w.heap.size w)
  have H : (if a0_0 = 1 then ((name_Class.f a0_1).bind fun t123 => (if t123 = true then ((name_Always.f k a0_1).bind fun t124 => (if t124 = true then (some false) else ((name_Class.f a0_2).bind fun t125 => (if t125 = true then ((def_vars.f l0_3).bind fun t126 => (if t126 = true then (if a0_4.toList = ([] : List UInt8) then (some (a0_5.toList == ([] : List UInt8))) else (some false)) else (some false))) else (some false))))) else (some false))) else (if a0_0 = 2 then ((name_Class.f a0_1).bind fun t127 => (if t127 = true then ((name_Kind.f a0_4).bind fun t128 => (if t128 = 0 then (some false) else (if (a0_5.size : Int) ≤ 4000 then (if a0_2.toList = ([] : List UInt8) then (some ((l0_3.length : Int) == 0)) else (some false)) else (some false)))) else (some false))) else (some false))) = some r := h
  clear h
  by_cases c2 : a0_0 = 1
  · rw [if_pos c2] at H
    have c2b0 : (a0_0 == 1) = true := beq_iff_eq.mpr c2
    have c2b1 : (a0_0 != 1) = false := bne_eq_false_iff_eq.mpr c2
    clear c2
    replace H := Option.bind_eq_some_iff.mp H
    obtain ⟨t123, A30, H⟩ := H
    replace H : (if t123 = true then ((name_Always.f k a0_1).bind fun t124 => (if t124 = true then (some false) else ((name_Class.f a0_2).bind fun t125 => (if t125 = true then ((def_vars.f l0_3).bind fun t126 => (if t126 = true then (if a0_4.toList = ([] : List UInt8) then (some (a0_5.toList == ([] : List UInt8))) else (some false)) else (some false))) else (some false))))) else (some false)) = some r := H
    have A3 := Aside0.mk A30
    clear A30
    by_cases c4 : t123 = true
    · subst c4
      have H1 : ((name_Always.f k a0_1).bind fun t124 => (if t124 = true then (some false) else ((name_Class.f a0_2).bind fun t125 => (if t125 = true then ((def_vars.f l0_3).bind fun t126 => (if t126 = true then (if a0_4.toList = ([] : List UInt8) then (some (a0_5.toList == ([] : List UInt8))) else (some false)) else (some false))) else (some false))))) = some r := by rw [if_pos rfl] at H; exact H
      clear H
      have H := H1
      clear H1
      replace H := Option.bind_eq_some_iff.mp H
      obtain ⟨t124, A50, H⟩ := H
      replace H : (if t124 = true then (some false) else ((name_Class.f a0_2).bind fun t125 => (if t125 = true then ((def_vars.f l0_3).bind fun t126 => (if t126 = true then (if a0_4.toList = ([] : List UInt8) then (some (a0_5.toList == ([] : List UInt8))) else (some false)) else (some false))) else (some false)))) = some r := H
      have A5 := Aside0.mk A50
      clear A50
      by_cases c6 : t124 = true
      · subst c6
        have H1 : (some false) = some r := by rw [if_pos rfl] at H; exact H
        clear H
        have H := H1
        clear H1
        obtain rfl := Option.some.inj H
        go_enter Tryd.func33, Tryd.ntmps33
        go_wp2_with (first | ((with_reducible refine gate_dst (N := 1) rfl ?_); (try (refine gate_guard (by rfl) ?_; dsimp only)); refine box_event ?hg (N := 1) ?hd (cs := #[.int .i64 a0_0, .string a0_1, .string a0_2, .slice A0_3 l0_3.length c0_3, .string a0_4, .string a0_5]) (t := 31) ?hr ?_; (case hd => rfl); (case hg => rfl); (case hr => first | (go_simp; done) | (go_simp; rfl)); intro gb122 hg w7 hbox hb; have n0_ := Aside0.mk (below_step (by repeat (first | (with_reducible first | exact HB.out | apply below_alloc | apply pw_below_drewN | apply below_drew1) | exact HB.out)) hb); have n1_ := Aside0.mk (hbox); have n2_ := Aside0.mk ((by rw [hg]; exact (below_size (by repeat (first | (with_reducible first | exact HB.out | apply below_alloc | apply pw_below_drewN | apply below_drew1) | exact HB.out))) : w.heap.size ≤ gb122)); have n3_ := Aside0.mk ((by rw [hg]; exact (below_size (by repeat (first | (with_reducible first | exact HB.out | apply below_alloc | apply pw_below_drewN | apply below_drew1) | exact HB.out))) : w.heap.size ≤ gb122)); clear HB; have HB := n0_; have BK122 := n1_; have GW122 := n2_; have GE122 := n3_; clear n0_ n1_ n2_ n3_; clear hb hbox hg; have hcz8_0 : w7.cell? ⟨gb122, 0, none⟩ = some (.int .i64 a0_0) := (blk_cell BK122.out 0).trans rfl; have hcz8_1 : w7.cell? ⟨gb122, 1, none⟩ = some (.string a0_1) := (blk_cell BK122.out 1).trans rfl; have hcz8_2 : w7.cell? ⟨gb122, 2, none⟩ = some (.string a0_2) := (blk_cell BK122.out 2).trans rfl; have hcz8_3 : w7.cell? ⟨gb122, 3, none⟩ = some (.slice A0_3 l0_3.length c0_3) := (blk_cell BK122.out 3).trans rfl; have hcz8_4 : w7.cell? ⟨gb122, 4, none⟩ = some (.string a0_4) := (blk_cell BK122.out 4).trans rfl; have hcz8_5 : w7.cell? ⟨gb122, 5, none⟩ = some (.string a0_5) := (blk_cell BK122.out 5).trans rfl; have hfz8_0 := blk_frozen BK122.out 0; have hfz8_1 := blk_frozen BK122.out 1; have hfz8_2 := blk_frozen BK122.out 2; have hfz8_3 := blk_frozen BK122.out 3; have hfz8_4 := blk_frozen BK122.out 4; have hfz8_5 := blk_frozen BK122.out 5) | ((with_reducible refine gate_callee (f := 58) rfl ?_); refine goesL_ (some 9) rfl rfl Tryd.func58 (by kernel_rfl) rfl #[.string a0_1] rfl (by (try simp only [List.map_toArray, List.map_cons, List.map_nil]); first | done | rfl | (simp only [List.length_drop, List.length_take]; rfl)) ?_; (with_reducible refine (name_Class.calls a0_1 true _ A3.out).mono ?_); rintro e w9 ⟨rfl, hb⟩; refine ⟨_, rfl, ?_⟩; have n0_ := Aside0.mk (blk_below (g := gb122) (o := .cells #[.int .i64 a0_0, .string a0_1, .string a0_2, .slice A0_3 l0_3.length c0_3, .string a0_4, .string a0_5] 31 (0, 0)) (by (with_reducible repeat (first | refine blk_drewN ?_ _ | refine blk_drew ?_ | refine blk_alloc ?_ _)); exact BK122.out) hb); have n1_ := Aside0.mk (below_step (by repeat (first | (with_reducible first | exact HB.out | apply below_alloc | apply pw_below_drewN | apply below_drew1 | refine below_set ?_ GE122.out) | exact HB.out)) hb); clear BK122; clear HB; have BK122 := n0_; have HB := n1_; clear n0_ n1_; (try clear hb); (try clear hb2); (try clear hk); (try clear hi); have hcz10_0 : w9.cell? ⟨gb122, 0, none⟩ = some (.int .i64 a0_0) := (blk_cell BK122.out 0).trans rfl; have hcz10_1 : w9.cell? ⟨gb122, 1, none⟩ = some (.string a0_1) := (blk_cell BK122.out 1).trans rfl; have hcz10_2 : w9.cell? ⟨gb122, 2, none⟩ = some (.string a0_2) := (blk_cell BK122.out 2).trans rfl; have hcz10_3 : w9.cell? ⟨gb122, 3, none⟩ = some (.slice A0_3 l0_3.length c0_3) := (blk_cell BK122.out 3).trans rfl; have hcz10_4 : w9.cell? ⟨gb122, 4, none⟩ = some (.string a0_4) := (blk_cell BK122.out 4).trans rfl; have hcz10_5 : w9.cell? ⟨gb122, 5, none⟩ = some (.string a0_5) := (blk_cell BK122.out 5).trans rfl; have hfz10_0 := blk_frozen BK122.out 0; have hfz10_1 := blk_frozen BK122.out 1; have hfz10_2 := blk_frozen BK122.out 2; have hfz10_3 := blk_frozen BK122.out 3; have hfz10_4 := blk_frozen BK122.out 4; have hfz10_5 := blk_frozen BK122.out 5) | (go_at_call 59; (with_reducible refine (name_Always.calls k a0_1 true _ A5.out).mono ?_); rintro e w11 ⟨rfl, hb⟩; have n0_ := Aside0.mk (blk_below (g := gb122) (o := .cells #[.int .i64 a0_0, .string a0_1, .string a0_2, .slice A0_3 l0_3.length c0_3, .string a0_4, .string a0_5] 31 (0, 0)) (by (with_reducible repeat (first | refine blk_drewN ?_ _ | refine blk_drew ?_ | refine blk_alloc ?_ _)); exact BK122.out) hb); have n1_ := Aside0.mk (below_step (by repeat (first | (with_reducible first | exact HB.out | apply below_alloc | apply pw_below_drewN | apply below_drew1 | refine below_set ?_ GE122.out) | exact HB.out)) hb); clear BK122; clear HB; have BK122 := n0_; have HB := n1_; clear n0_ n1_; (try clear hb); (try clear hb2); (try clear hk); (try clear hi)))
        go_ret
        exact ⟨by first | rfl | (simp [errW_none, errW_some] <;> rfl) | (simp [*, errW_none, errW_some] <;> rfl), by repeat (first | (with_reducible first | exact HB.out | apply below_alloc | apply pw_below_drewN | apply below_drew1 | refine below_set ?_ GE122.out) | exact HB.out)⟩
      · replace c6 := Bool.eq_false_iff.mpr c6
        subst c6
        have H1 : ((name_Class.f a0_2).bind fun t125 => (if t125 = true then ((def_vars.f l0_3).bind fun t126 => (if t126 = true then (if a0_4.toList = ([] : List UInt8) then (some (a0_5.toList == ([] : List UInt8))) else (some false)) else (some false))) else (some false))) = some r := by rw [if_neg (show ¬ (false = true) by decide)] at H; exact H
        clear H
        have H := H1
        clear H1
        replace H := Option.bind_eq_some_iff.mp H
        obtain ⟨t125, A120, H⟩ := H
        replace H : (if t125 = true then ((def_vars.f l0_3).bind fun t126 => (if t126 = true then (if a0_4.toList = ([] : List UInt8) then (some (a0_5.toList == ([] : List UInt8))) else (some false)) else (some false))) else (some false)) = some r := H
        have A12 := Aside0.mk A120
        clear A120
        by_cases c13 : t125 = true
        · subst c13
          have H1 : ((def_vars.f l0_3).bind fun t126 => (if t126 = true then (if a0_4.toList = ([] : List UInt8) then (some (a0_5.toList == ([] : List UInt8))) else (some false)) else (some false))) = some r := by rw [if_pos rfl] at H; exact H
          clear H
          have H := H1
          clear H1
          replace H := Option.bind_eq_some_iff.mp H
          obtain ⟨t126, A140, H⟩ := H
          replace H : (if t126 = true then (if a0_4.toList = ([] : List UInt8) then (some (a0_5.toList == ([] : List UInt8))) else (some false)) else (some false)) = some r := H
          have A14 := Aside0.mk A140
          clear A140
          by_cases c15 : t126 = true
          · subst c15
            have H1 : (if a0_4.toList = ([] : List UInt8) then (some (a0_5.toList == ([] : List UInt8))) else (some false)) = some r := by rw [if_pos rfl] at H; exact H
            clear H
            have H := H1
            clear H1
            by_cases c16 : a0_4.toList = ([] : List UInt8)
            · rw [if_pos c16] at H
              have c16b0 : (a0_4.toList == ([] : List UInt8)) = true := beq_iff_eq.mpr c16
              have c16b1 : (a0_4.toList != ([] : List UInt8)) = false := bne_eq_false_iff_eq.mpr c16
              clear c16
              obtain rfl := Option.some.inj H
              go_enter Tryd.func33, Tryd.ntmps33
              go_wp2_with (first | ((with_reducible refine gate_dst (N := 1) rfl ?_); (try (refine gate_guard (by rfl) ?_; dsimp only)); refine box_event ?hg (N := 1) ?hd (cs := #[.int .i64 a0_0, .string a0_1, .string a0_2, .slice A0_3 l0_3.length c0_3, .string a0_4, .string a0_5]) (t := 31) ?hr ?_; (case hd => rfl); (case hg => rfl); (case hr => first | (go_simp; done) | (go_simp; rfl)); intro gb122 hg w17 hbox hb; have n0_ := Aside0.mk (below_step (by repeat (first | (with_reducible first | exact HB.out | apply below_alloc | apply pw_below_drewN | apply below_drew1) | exact HB.out)) hb); have n1_ := Aside0.mk (hbox); have n2_ := Aside0.mk ((by rw [hg]; exact (below_size (by repeat (first | (with_reducible first | exact HB.out | apply below_alloc | apply pw_below_drewN | apply below_drew1) | exact HB.out))) : w.heap.size ≤ gb122)); have n3_ := Aside0.mk ((by rw [hg]; exact (below_size (by repeat (first | (with_reducible first | exact HB.out | apply below_alloc | apply pw_below_drewN | apply below_drew1) | exact HB.out))) : w.heap.size ≤ gb122)); clear HB; have HB := n0_; have BK122 := n1_; have GW122 := n2_; have GE122 := n3_; clear n0_ n1_ n2_ n3_; clear hb hbox hg; have hcz18_0 : w17.cell? ⟨gb122, 0, none⟩ = some (.int .i64 a0_0) := (blk_cell BK122.out 0).trans rfl; have hcz18_1 : w17.cell? ⟨gb122, 1, none⟩ = some (.string a0_1) := (blk_cell BK122.out 1).trans rfl; have hcz18_2 : w17.cell? ⟨gb122, 2, none⟩ = some (.string a0_2) := (blk_cell BK122.out 2).trans rfl; have hcz18_3 : w17.cell? ⟨gb122, 3, none⟩ = some (.slice A0_3 l0_3.length c0_3) := (blk_cell BK122.out 3).trans rfl; have hcz18_4 : w17.cell? ⟨gb122, 4, none⟩ = some (.string a0_4) := (blk_cell BK122.out 4).trans rfl; have hcz18_5 : w17.cell? ⟨gb122, 5, none⟩ = some (.string a0_5) := (blk_cell BK122.out 5).trans rfl; have hfz18_0 := blk_frozen BK122.out 0; have hfz18_1 := blk_frozen BK122.out 1; have hfz18_2 := blk_frozen BK122.out 2; have hfz18_3 := blk_frozen BK122.out 3; have hfz18_4 := blk_frozen BK122.out 4; have hfz18_5 := blk_frozen BK122.out 5) | ((with_reducible refine gate_callee (f := 58) rfl ?_); refine goesL_ (some 9) rfl rfl Tryd.func58 (by kernel_rfl) rfl #[.string a0_1] rfl (by (try simp only [List.map_toArray, List.map_cons, List.map_nil]); first | done | rfl | (simp only [List.length_drop, List.length_take]; rfl)) ?_; (with_reducible refine (name_Class.calls a0_1 true _ A3.out).mono ?_); rintro e w19 ⟨rfl, hb⟩; refine ⟨_, rfl, ?_⟩; have n0_ := Aside0.mk (blk_below (g := gb122) (o := .cells #[.int .i64 a0_0, .string a0_1, .string a0_2, .slice A0_3 l0_3.length c0_3, .string a0_4, .string a0_5] 31 (0, 0)) (by (with_reducible repeat (first | refine blk_drewN ?_ _ | refine blk_drew ?_ | refine blk_alloc ?_ _)); exact BK122.out) hb); have n1_ := Aside0.mk (below_step (by repeat (first | (with_reducible first | exact HB.out | apply below_alloc | apply pw_below_drewN | apply below_drew1 | refine below_set ?_ GE122.out) | exact HB.out)) hb); clear BK122; clear HB; have BK122 := n0_; have HB := n1_; clear n0_ n1_; (try clear hb); (try clear hb2); (try clear hk); (try clear hi); have hcz20_0 : w19.cell? ⟨gb122, 0, none⟩ = some (.int .i64 a0_0) := (blk_cell BK122.out 0).trans rfl; have hcz20_1 : w19.cell? ⟨gb122, 1, none⟩ = some (.string a0_1) := (blk_cell BK122.out 1).trans rfl; have hcz20_2 : w19.cell? ⟨gb122, 2, none⟩ = some (.string a0_2) := (blk_cell BK122.out 2).trans rfl; have hcz20_3 : w19.cell? ⟨gb122, 3, none⟩ = some (.slice A0_3 l0_3.length c0_3) := (blk_cell BK122.out 3).trans rfl; have hcz20_4 : w19.cell? ⟨gb122, 4, none⟩ = some (.string a0_4) := (blk_cell BK122.out 4).trans rfl; have hcz20_5 : w19.cell? ⟨gb122, 5, none⟩ = some (.string a0_5) := (blk_cell BK122.out 5).trans rfl; have hfz20_0 := blk_frozen BK122.out 0; have hfz20_1 := blk_frozen BK122.out 1; have hfz20_2 := blk_frozen BK122.out 2; have hfz20_3 := blk_frozen BK122.out 3; have hfz20_4 := blk_frozen BK122.out 4; have hfz20_5 := blk_frozen BK122.out 5) | (go_at_call 59; (with_reducible refine (name_Always.calls k a0_1 false _ A5.out).mono ?_); rintro e w21 ⟨rfl, hb⟩; have n0_ := Aside0.mk (blk_below (g := gb122) (o := .cells #[.int .i64 a0_0, .string a0_1, .string a0_2, .slice A0_3 l0_3.length c0_3, .string a0_4, .string a0_5] 31 (0, 0)) (by (with_reducible repeat (first | refine blk_drewN ?_ _ | refine blk_drew ?_ | refine blk_alloc ?_ _)); exact BK122.out) hb); have n1_ := Aside0.mk (below_step (by repeat (first | (with_reducible first | exact HB.out | apply below_alloc | apply pw_below_drewN | apply below_drew1 | refine below_set ?_ GE122.out) | exact HB.out)) hb); clear BK122; clear HB; have BK122 := n0_; have HB := n1_; clear n0_ n1_; (try clear hb); (try clear hb2); (try clear hk); (try clear hi); have hcz22_0 : w21.cell? ⟨gb122, 0, none⟩ = some (.int .i64 a0_0) := (blk_cell BK122.out 0).trans rfl; have hcz22_1 : w21.cell? ⟨gb122, 1, none⟩ = some (.string a0_1) := (blk_cell BK122.out 1).trans rfl; have hcz22_2 : w21.cell? ⟨gb122, 2, none⟩ = some (.string a0_2) := (blk_cell BK122.out 2).trans rfl; have hcz22_3 : w21.cell? ⟨gb122, 3, none⟩ = some (.slice A0_3 l0_3.length c0_3) := (blk_cell BK122.out 3).trans rfl; have hcz22_4 : w21.cell? ⟨gb122, 4, none⟩ = some (.string a0_4) := (blk_cell BK122.out 4).trans rfl; have hcz22_5 : w21.cell? ⟨gb122, 5, none⟩ = some (.string a0_5) := (blk_cell BK122.out 5).trans rfl; have hfz22_0 := blk_frozen BK122.out 0; have hfz22_1 := blk_frozen BK122.out 1; have hfz22_2 := blk_frozen BK122.out 2; have hfz22_3 := blk_frozen BK122.out 3; have hfz22_4 := blk_frozen BK122.out 4; have hfz22_5 := blk_frozen BK122.out 5) | (go_at_call 58; (with_reducible refine (name_Class.calls a0_2 true _ A12.out).mono ?_); rintro e w23 ⟨rfl, hb⟩; have n0_ := Aside0.mk (blk_below (g := gb122) (o := .cells #[.int .i64 a0_0, .string a0_1, .string a0_2, .slice A0_3 l0_3.length c0_3, .string a0_4, .string a0_5] 31 (0, 0)) (by (with_reducible repeat (first | refine blk_drewN ?_ _ | refine blk_drew ?_ | refine blk_alloc ?_ _)); exact BK122.out) hb); have n1_ := Aside0.mk (below_step (by repeat (first | (with_reducible first | exact HB.out | apply below_alloc | apply pw_below_drewN | apply below_drew1 | refine below_set ?_ GE122.out) | exact HB.out)) hb); clear BK122; clear HB; have BK122 := n0_; have HB := n1_; clear n0_ n1_; (try clear hb); (try clear hb2); (try clear hk); (try clear hi); have hcz24_0 : w23.cell? ⟨gb122, 0, none⟩ = some (.int .i64 a0_0) := (blk_cell BK122.out 0).trans rfl; have hcz24_1 : w23.cell? ⟨gb122, 1, none⟩ = some (.string a0_1) := (blk_cell BK122.out 1).trans rfl; have hcz24_2 : w23.cell? ⟨gb122, 2, none⟩ = some (.string a0_2) := (blk_cell BK122.out 2).trans rfl; have hcz24_3 : w23.cell? ⟨gb122, 3, none⟩ = some (.slice A0_3 l0_3.length c0_3) := (blk_cell BK122.out 3).trans rfl; have hcz24_4 : w23.cell? ⟨gb122, 4, none⟩ = some (.string a0_4) := (blk_cell BK122.out 4).trans rfl; have hcz24_5 : w23.cell? ⟨gb122, 5, none⟩ = some (.string a0_5) := (blk_cell BK122.out 5).trans rfl; have hfz24_0 := blk_frozen BK122.out 0; have hfz24_1 := blk_frozen BK122.out 1; have hfz24_2 := blk_frozen BK122.out 2; have hfz24_3 := blk_frozen BK122.out 3; have hfz24_4 := blk_frozen BK122.out 4; have hfz24_5 := blk_frozen BK122.out 5) | (go_at_call 60; (with_reducible refine (def_vars.calls _ _ l0_3 true _ ?side1 ?side2 A14.out).mono ?_); (case side1 => repeat (first | exact (Kd.C_below HR0_3.out HB.out) | (with_reducible refine Kd.C_alloc ?_ _) | (with_reducible refine Kd.C_drewN ?_ _) | (with_reducible refine Kd.C_drew ?_))); (case side2 => exact HC0_3.out); rintro e w25 ⟨rfl, hb⟩; have n0_ := Aside0.mk (blk_below (g := gb122) (o := .cells #[.int .i64 a0_0, .string a0_1, .string a0_2, .slice A0_3 l0_3.length c0_3, .string a0_4, .string a0_5] 31 (0, 0)) (by (with_reducible repeat (first | refine blk_drewN ?_ _ | refine blk_drew ?_ | refine blk_alloc ?_ _)); exact BK122.out) hb); have n1_ := Aside0.mk (below_step (by repeat (first | (with_reducible first | exact HB.out | apply below_alloc | apply pw_below_drewN | apply below_drew1 | refine below_set ?_ GE122.out) | exact HB.out)) hb); clear BK122; clear HB; have BK122 := n0_; have HB := n1_; clear n0_ n1_; (try clear hb); (try clear hb2); (try clear hk); (try clear hi); have hcz26_0 : w25.cell? ⟨gb122, 0, none⟩ = some (.int .i64 a0_0) := (blk_cell BK122.out 0).trans rfl; have hcz26_1 : w25.cell? ⟨gb122, 1, none⟩ = some (.string a0_1) := (blk_cell BK122.out 1).trans rfl; have hcz26_2 : w25.cell? ⟨gb122, 2, none⟩ = some (.string a0_2) := (blk_cell BK122.out 2).trans rfl; have hcz26_3 : w25.cell? ⟨gb122, 3, none⟩ = some (.slice A0_3 l0_3.length c0_3) := (blk_cell BK122.out 3).trans rfl; have hcz26_4 : w25.cell? ⟨gb122, 4, none⟩ = some (.string a0_4) := (blk_cell BK122.out 4).trans rfl; have hcz26_5 : w25.cell? ⟨gb122, 5, none⟩ = some (.string a0_5) := (blk_cell BK122.out 5).trans rfl; have hfz26_0 := blk_frozen BK122.out 0; have hfz26_1 := blk_frozen BK122.out 1; have hfz26_2 := blk_frozen BK122.out 2; have hfz26_3 := blk_frozen BK122.out 3; have hfz26_4 := blk_frozen BK122.out 4; have hfz26_5 := blk_frozen BK122.out 5))
              go_ret
              exact ⟨by first | rfl | (simp [errW_none, errW_some] <;> rfl) | (simp [*, errW_none, errW_some] <;> rfl), by repeat (first | (with_reducible first | exact HB.out | apply below_alloc | apply pw_below_drewN | apply below_drew1 | refine below_set ?_ GE122.out) | exact HB.out)⟩
            · rw [if_neg c16] at H
              have c16b0 : (a0_4.toList == ([] : List UInt8)) = false := beq_eq_false_iff_ne.mpr c16
              have c16b1 : (a0_4.toList != ([] : List UInt8)) = true := bne_iff_ne.mpr c16
              obtain rfl := Option.some.inj H
              go_enter Tryd.func33, Tryd.ntmps33
              go_wp2_with (first | ((with_reducible refine gate_dst (N := 1) rfl ?_); (try (refine gate_guard (by rfl) ?_; dsimp only)); refine box_event ?hg (N := 1) ?hd (cs := #[.int .i64 a0_0, .string a0_1, .string a0_2, .slice A0_3 l0_3.length c0_3, .string a0_4, .string a0_5]) (t := 31) ?hr ?_; (case hd => rfl); (case hg => rfl); (case hr => first | (go_simp; done) | (go_simp; rfl)); intro gb122 hg w27 hbox hb; have n0_ := Aside0.mk (below_step (by repeat (first | (with_reducible first | exact HB.out | apply below_alloc | apply pw_below_drewN | apply below_drew1) | exact HB.out)) hb); have n1_ := Aside0.mk (hbox); have n2_ := Aside0.mk ((by rw [hg]; exact (below_size (by repeat (first | (with_reducible first | exact HB.out | apply below_alloc | apply pw_below_drewN | apply below_drew1) | exact HB.out))) : w.heap.size ≤ gb122)); have n3_ := Aside0.mk ((by rw [hg]; exact (below_size (by repeat (first | (with_reducible first | exact HB.out | apply below_alloc | apply pw_below_drewN | apply below_drew1) | exact HB.out))) : w.heap.size ≤ gb122)); clear HB; have HB := n0_; have BK122 := n1_; have GW122 := n2_; have GE122 := n3_; clear n0_ n1_ n2_ n3_; clear hb hbox hg; have hcz28_0 : w27.cell? ⟨gb122, 0, none⟩ = some (.int .i64 a0_0) := (blk_cell BK122.out 0).trans rfl; have hcz28_1 : w27.cell? ⟨gb122, 1, none⟩ = some (.string a0_1) := (blk_cell BK122.out 1).trans rfl; have hcz28_2 : w27.cell? ⟨gb122, 2, none⟩ = some (.string a0_2) := (blk_cell BK122.out 2).trans rfl; have hcz28_3 : w27.cell? ⟨gb122, 3, none⟩ = some (.slice A0_3 l0_3.length c0_3) := (blk_cell BK122.out 3).trans rfl; have hcz28_4 : w27.cell? ⟨gb122, 4, none⟩ = some (.string a0_4) := (blk_cell BK122.out 4).trans rfl; have hcz28_5 : w27.cell? ⟨gb122, 5, none⟩ = some (.string a0_5) := (blk_cell BK122.out 5).trans rfl; have hfz28_0 := blk_frozen BK122.out 0; have hfz28_1 := blk_frozen BK122.out 1; have hfz28_2 := blk_frozen BK122.out 2; have hfz28_3 := blk_frozen BK122.out 3; have hfz28_4 := blk_frozen BK122.out 4; have hfz28_5 := blk_frozen BK122.out 5) | ((with_reducible refine gate_callee (f := 58) rfl ?_); refine goesL_ (some 9) rfl rfl Tryd.func58 (by kernel_rfl) rfl #[.string a0_1] rfl (by (try simp only [List.map_toArray, List.map_cons, List.map_nil]); first | done | rfl | (simp only [List.length_drop, List.length_take]; rfl)) ?_; (with_reducible refine (name_Class.calls a0_1 true _ A3.out).mono ?_); rintro e w29 ⟨rfl, hb⟩; refine ⟨_, rfl, ?_⟩; have n0_ := Aside0.mk (blk_below (g := gb122) (o := .cells #[.int .i64 a0_0, .string a0_1, .string a0_2, .slice A0_3 l0_3.length c0_3, .string a0_4, .string a0_5] 31 (0, 0)) (by (with_reducible repeat (first | refine blk_drewN ?_ _ | refine blk_drew ?_ | refine blk_alloc ?_ _)); exact BK122.out) hb); have n1_ := Aside0.mk (below_step (by repeat (first | (with_reducible first | exact HB.out | apply below_alloc | apply pw_below_drewN | apply below_drew1 | refine below_set ?_ GE122.out) | exact HB.out)) hb); clear BK122; clear HB; have BK122 := n0_; have HB := n1_; clear n0_ n1_; (try clear hb); (try clear hb2); (try clear hk); (try clear hi); have hcz30_0 : w29.cell? ⟨gb122, 0, none⟩ = some (.int .i64 a0_0) := (blk_cell BK122.out 0).trans rfl; have hcz30_1 : w29.cell? ⟨gb122, 1, none⟩ = some (.string a0_1) := (blk_cell BK122.out 1).trans rfl; have hcz30_2 : w29.cell? ⟨gb122, 2, none⟩ = some (.string a0_2) := (blk_cell BK122.out 2).trans rfl; have hcz30_3 : w29.cell? ⟨gb122, 3, none⟩ = some (.slice A0_3 l0_3.length c0_3) := (blk_cell BK122.out 3).trans rfl; have hcz30_4 : w29.cell? ⟨gb122, 4, none⟩ = some (.string a0_4) := (blk_cell BK122.out 4).trans rfl; have hcz30_5 : w29.cell? ⟨gb122, 5, none⟩ = some (.string a0_5) := (blk_cell BK122.out 5).trans rfl; have hfz30_0 := blk_frozen BK122.out 0; have hfz30_1 := blk_frozen BK122.out 1; have hfz30_2 := blk_frozen BK122.out 2; have hfz30_3 := blk_frozen BK122.out 3; have hfz30_4 := blk_frozen BK122.out 4; have hfz30_5 := blk_frozen BK122.out 5) | (go_at_call 59; (with_reducible refine (name_Always.calls k a0_1 false _ A5.out).mono ?_); rintro e w31 ⟨rfl, hb⟩; have n0_ := Aside0.mk (blk_below (g := gb122) (o := .cells #[.int .i64 a0_0, .string a0_1, .string a0_2, .slice A0_3 l0_3.length c0_3, .string a0_4, .string a0_5] 31 (0, 0)) (by (with_reducible repeat (first | refine blk_drewN ?_ _ | refine blk_drew ?_ | refine blk_alloc ?_ _)); exact BK122.out) hb); have n1_ := Aside0.mk (below_step (by repeat (first | (with_reducible first | exact HB.out | apply below_alloc | apply pw_below_drewN | apply below_drew1 | refine below_set ?_ GE122.out) | exact HB.out)) hb); clear BK122; clear HB; have BK122 := n0_; have HB := n1_; clear n0_ n1_; (try clear hb); (try clear hb2); (try clear hk); (try clear hi); have hcz32_0 : w31.cell? ⟨gb122, 0, none⟩ = some (.int .i64 a0_0) := (blk_cell BK122.out 0).trans rfl; have hcz32_1 : w31.cell? ⟨gb122, 1, none⟩ = some (.string a0_1) := (blk_cell BK122.out 1).trans rfl; have hcz32_2 : w31.cell? ⟨gb122, 2, none⟩ = some (.string a0_2) := (blk_cell BK122.out 2).trans rfl; have hcz32_3 : w31.cell? ⟨gb122, 3, none⟩ = some (.slice A0_3 l0_3.length c0_3) := (blk_cell BK122.out 3).trans rfl; have hcz32_4 : w31.cell? ⟨gb122, 4, none⟩ = some (.string a0_4) := (blk_cell BK122.out 4).trans rfl; have hcz32_5 : w31.cell? ⟨gb122, 5, none⟩ = some (.string a0_5) := (blk_cell BK122.out 5).trans rfl; have hfz32_0 := blk_frozen BK122.out 0; have hfz32_1 := blk_frozen BK122.out 1; have hfz32_2 := blk_frozen BK122.out 2; have hfz32_3 := blk_frozen BK122.out 3; have hfz32_4 := blk_frozen BK122.out 4; have hfz32_5 := blk_frozen BK122.out 5) | (go_at_call 58; (with_reducible refine (name_Class.calls a0_2 true _ A12.out).mono ?_); rintro e w33 ⟨rfl, hb⟩; have n0_ := Aside0.mk (blk_below (g := gb122) (o := .cells #[.int .i64 a0_0, .string a0_1, .string a0_2, .slice A0_3 l0_3.length c0_3, .string a0_4, .string a0_5] 31 (0, 0)) (by (with_reducible repeat (first | refine blk_drewN ?_ _ | refine blk_drew ?_ | refine blk_alloc ?_ _)); exact BK122.out) hb); have n1_ := Aside0.mk (below_step (by repeat (first | (with_reducible first | exact HB.out | apply below_alloc | apply pw_below_drewN | apply below_drew1 | refine below_set ?_ GE122.out) | exact HB.out)) hb); clear BK122; clear HB; have BK122 := n0_; have HB := n1_; clear n0_ n1_; (try clear hb); (try clear hb2); (try clear hk); (try clear hi); have hcz34_0 : w33.cell? ⟨gb122, 0, none⟩ = some (.int .i64 a0_0) := (blk_cell BK122.out 0).trans rfl; have hcz34_1 : w33.cell? ⟨gb122, 1, none⟩ = some (.string a0_1) := (blk_cell BK122.out 1).trans rfl; have hcz34_2 : w33.cell? ⟨gb122, 2, none⟩ = some (.string a0_2) := (blk_cell BK122.out 2).trans rfl; have hcz34_3 : w33.cell? ⟨gb122, 3, none⟩ = some (.slice A0_3 l0_3.length c0_3) := (blk_cell BK122.out 3).trans rfl; have hcz34_4 : w33.cell? ⟨gb122, 4, none⟩ = some (.string a0_4) := (blk_cell BK122.out 4).trans rfl; have hcz34_5 : w33.cell? ⟨gb122, 5, none⟩ = some (.string a0_5) := (blk_cell BK122.out 5).trans rfl; have hfz34_0 := blk_frozen BK122.out 0; have hfz34_1 := blk_frozen BK122.out 1; have hfz34_2 := blk_frozen BK122.out 2; have hfz34_3 := blk_frozen BK122.out 3; have hfz34_4 := blk_frozen BK122.out 4; have hfz34_5 := blk_frozen BK122.out 5) | (go_at_call 60; (with_reducible refine (def_vars.calls _ _ l0_3 true _ ?side1 ?side2 A14.out).mono ?_); (case side1 => repeat (first | exact (Kd.C_below HR0_3.out HB.out) | (with_reducible refine Kd.C_alloc ?_ _) | (with_reducible refine Kd.C_drewN ?_ _) | (with_reducible refine Kd.C_drew ?_))); (case side2 => exact HC0_3.out); rintro e w35 ⟨rfl, hb⟩; have n0_ := Aside0.mk (blk_below (g := gb122) (o := .cells #[.int .i64 a0_0, .string a0_1, .string a0_2, .slice A0_3 l0_3.length c0_3, .string a0_4, .string a0_5] 31 (0, 0)) (by (with_reducible repeat (first | refine blk_drewN ?_ _ | refine blk_drew ?_ | refine blk_alloc ?_ _)); exact BK122.out) hb); have n1_ := Aside0.mk (below_step (by repeat (first | (with_reducible first | exact HB.out | apply below_alloc | apply pw_below_drewN | apply below_drew1 | refine below_set ?_ GE122.out) | exact HB.out)) hb); clear BK122; clear HB; have BK122 := n0_; have HB := n1_; clear n0_ n1_; (try clear hb); (try clear hb2); (try clear hk); (try clear hi); have hcz36_0 : w35.cell? ⟨gb122, 0, none⟩ = some (.int .i64 a0_0) := (blk_cell BK122.out 0).trans rfl; have hcz36_1 : w35.cell? ⟨gb122, 1, none⟩ = some (.string a0_1) := (blk_cell BK122.out 1).trans rfl; have hcz36_2 : w35.cell? ⟨gb122, 2, none⟩ = some (.string a0_2) := (blk_cell BK122.out 2).trans rfl; have hcz36_3 : w35.cell? ⟨gb122, 3, none⟩ = some (.slice A0_3 l0_3.length c0_3) := (blk_cell BK122.out 3).trans rfl; have hcz36_4 : w35.cell? ⟨gb122, 4, none⟩ = some (.string a0_4) := (blk_cell BK122.out 4).trans rfl; have hcz36_5 : w35.cell? ⟨gb122, 5, none⟩ = some (.string a0_5) := (blk_cell BK122.out 5).trans rfl; have hfz36_0 := blk_frozen BK122.out 0; have hfz36_1 := blk_frozen BK122.out 1; have hfz36_2 := blk_frozen BK122.out 2; have hfz36_3 := blk_frozen BK122.out 3; have hfz36_4 := blk_frozen BK122.out 4; have hfz36_5 := blk_frozen BK122.out 5))
              go_ret
              exact ⟨by first | rfl | (simp [errW_none, errW_some] <;> rfl) | (simp [*, errW_none, errW_some] <;> rfl), by repeat (first | (with_reducible first | exact HB.out | apply below_alloc | apply pw_below_drewN | apply below_drew1 | refine below_set ?_ GE122.out) | exact HB.out)⟩
          · replace c15 := Bool.eq_false_iff.mpr c15
            subst c15
            have H1 : (some false) = some r := by rw [if_neg (show ¬ (false = true) by decide)] at H; exact H
            clear H
            have H := H1
            clear H1
            obtain rfl := Option.some.inj H
            go_enter Tryd.func33, Tryd.ntmps33
            go_wp2_with (first | ((with_reducible refine gate_dst (N := 1) rfl ?_); (try (refine gate_guard (by rfl) ?_; dsimp only)); refine box_event ?hg (N := 1) ?hd (cs := #[.int .i64 a0_0, .string a0_1, .string a0_2, .slice A0_3 l0_3.length c0_3, .string a0_4, .string a0_5]) (t := 31) ?hr ?_; (case hd => rfl); (case hg => rfl); (case hr => first | (go_simp; done) | (go_simp; rfl)); intro gb122 hg w37 hbox hb; have n0_ := Aside0.mk (below_step (by repeat (first | (with_reducible first | exact HB.out | apply below_alloc | apply pw_below_drewN | apply below_drew1) | exact HB.out)) hb); have n1_ := Aside0.mk (hbox); have n2_ := Aside0.mk ((by rw [hg]; exact (below_size (by repeat (first | (with_reducible first | exact HB.out | apply below_alloc | apply pw_below_drewN | apply below_drew1) | exact HB.out))) : w.heap.size ≤ gb122)); have n3_ := Aside0.mk ((by rw [hg]; exact (below_size (by repeat (first | (with_reducible first | exact HB.out | apply below_alloc | apply pw_below_drewN | apply below_drew1) | exact HB.out))) : w.heap.size ≤ gb122)); clear HB; have HB := n0_; have BK122 := n1_; have GW122 := n2_; have GE122 := n3_; clear n0_ n1_ n2_ n3_; clear hb hbox hg; have hcz38_0 : w37.cell? ⟨gb122, 0, none⟩ = some (.int .i64 a0_0) := (blk_cell BK122.out 0).trans rfl; have hcz38_1 : w37.cell? ⟨gb122, 1, none⟩ = some (.string a0_1) := (blk_cell BK122.out 1).trans rfl; have hcz38_2 : w37.cell? ⟨gb122, 2, none⟩ = some (.string a0_2) := (blk_cell BK122.out 2).trans rfl; have hcz38_3 : w37.cell? ⟨gb122, 3, none⟩ = some (.slice A0_3 l0_3.length c0_3) := (blk_cell BK122.out 3).trans rfl; have hcz38_4 : w37.cell? ⟨gb122, 4, none⟩ = some (.string a0_4) := (blk_cell BK122.out 4).trans rfl; have hcz38_5 : w37.cell? ⟨gb122, 5, none⟩ = some (.string a0_5) := (blk_cell BK122.out 5).trans rfl; have hfz38_0 := blk_frozen BK122.out 0; have hfz38_1 := blk_frozen BK122.out 1; have hfz38_2 := blk_frozen BK122.out 2; have hfz38_3 := blk_frozen BK122.out 3; have hfz38_4 := blk_frozen BK122.out 4; have hfz38_5 := blk_frozen BK122.out 5) | ((with_reducible refine gate_callee (f := 58) rfl ?_); refine goesL_ (some 9) rfl rfl Tryd.func58 (by kernel_rfl) rfl #[.string a0_1] rfl (by (try simp only [List.map_toArray, List.map_cons, List.map_nil]); first | done | rfl | (simp only [List.length_drop, List.length_take]; rfl)) ?_; (with_reducible refine (name_Class.calls a0_1 true _ A3.out).mono ?_); rintro e w39 ⟨rfl, hb⟩; refine ⟨_, rfl, ?_⟩; have n0_ := Aside0.mk (blk_below (g := gb122) (o := .cells #[.int .i64 a0_0, .string a0_1, .string a0_2, .slice A0_3 l0_3.length c0_3, .string a0_4, .string a0_5] 31 (0, 0)) (by (with_reducible repeat (first | refine blk_drewN ?_ _ | refine blk_drew ?_ | refine blk_alloc ?_ _)); exact BK122.out) hb); have n1_ := Aside0.mk (below_step (by repeat (first | (with_reducible first | exact HB.out | apply below_alloc | apply pw_below_drewN | apply below_drew1 | refine below_set ?_ GE122.out) | exact HB.out)) hb); clear BK122; clear HB; have BK122 := n0_; have HB := n1_; clear n0_ n1_; (try clear hb); (try clear hb2); (try clear hk); (try clear hi); have hcz40_0 : w39.cell? ⟨gb122, 0, none⟩ = some (.int .i64 a0_0) := (blk_cell BK122.out 0).trans rfl; have hcz40_1 : w39.cell? ⟨gb122, 1, none⟩ = some (.string a0_1) := (blk_cell BK122.out 1).trans rfl; have hcz40_2 : w39.cell? ⟨gb122, 2, none⟩ = some (.string a0_2) := (blk_cell BK122.out 2).trans rfl; have hcz40_3 : w39.cell? ⟨gb122, 3, none⟩ = some (.slice A0_3 l0_3.length c0_3) := (blk_cell BK122.out 3).trans rfl; have hcz40_4 : w39.cell? ⟨gb122, 4, none⟩ = some (.string a0_4) := (blk_cell BK122.out 4).trans rfl; have hcz40_5 : w39.cell? ⟨gb122, 5, none⟩ = some (.string a0_5) := (blk_cell BK122.out 5).trans rfl; have hfz40_0 := blk_frozen BK122.out 0; have hfz40_1 := blk_frozen BK122.out 1; have hfz40_2 := blk_frozen BK122.out 2; have hfz40_3 := blk_frozen BK122.out 3; have hfz40_4 := blk_frozen BK122.out 4; have hfz40_5 := blk_frozen BK122.out 5) | (go_at_call 59; (with_reducible refine (name_Always.calls k a0_1 false _ A5.out).mono ?_); rintro e w41 ⟨rfl, hb⟩; have n0_ := Aside0.mk (blk_below (g := gb122) (o := .cells #[.int .i64 a0_0, .string a0_1, .string a0_2, .slice A0_3 l0_3.length c0_3, .string a0_4, .string a0_5] 31 (0, 0)) (by (with_reducible repeat (first | refine blk_drewN ?_ _ | refine blk_drew ?_ | refine blk_alloc ?_ _)); exact BK122.out) hb); have n1_ := Aside0.mk (below_step (by repeat (first | (with_reducible first | exact HB.out | apply below_alloc | apply pw_below_drewN | apply below_drew1 | refine below_set ?_ GE122.out) | exact HB.out)) hb); clear BK122; clear HB; have BK122 := n0_; have HB := n1_; clear n0_ n1_; (try clear hb); (try clear hb2); (try clear hk); (try clear hi); have hcz42_0 : w41.cell? ⟨gb122, 0, none⟩ = some (.int .i64 a0_0) := (blk_cell BK122.out 0).trans rfl; have hcz42_1 : w41.cell? ⟨gb122, 1, none⟩ = some (.string a0_1) := (blk_cell BK122.out 1).trans rfl; have hcz42_2 : w41.cell? ⟨gb122, 2, none⟩ = some (.string a0_2) := (blk_cell BK122.out 2).trans rfl; have hcz42_3 : w41.cell? ⟨gb122, 3, none⟩ = some (.slice A0_3 l0_3.length c0_3) := (blk_cell BK122.out 3).trans rfl; have hcz42_4 : w41.cell? ⟨gb122, 4, none⟩ = some (.string a0_4) := (blk_cell BK122.out 4).trans rfl; have hcz42_5 : w41.cell? ⟨gb122, 5, none⟩ = some (.string a0_5) := (blk_cell BK122.out 5).trans rfl; have hfz42_0 := blk_frozen BK122.out 0; have hfz42_1 := blk_frozen BK122.out 1; have hfz42_2 := blk_frozen BK122.out 2; have hfz42_3 := blk_frozen BK122.out 3; have hfz42_4 := blk_frozen BK122.out 4; have hfz42_5 := blk_frozen BK122.out 5) | (go_at_call 58; (with_reducible refine (name_Class.calls a0_2 true _ A12.out).mono ?_); rintro e w43 ⟨rfl, hb⟩; have n0_ := Aside0.mk (blk_below (g := gb122) (o := .cells #[.int .i64 a0_0, .string a0_1, .string a0_2, .slice A0_3 l0_3.length c0_3, .string a0_4, .string a0_5] 31 (0, 0)) (by (with_reducible repeat (first | refine blk_drewN ?_ _ | refine blk_drew ?_ | refine blk_alloc ?_ _)); exact BK122.out) hb); have n1_ := Aside0.mk (below_step (by repeat (first | (with_reducible first | exact HB.out | apply below_alloc | apply pw_below_drewN | apply below_drew1 | refine below_set ?_ GE122.out) | exact HB.out)) hb); clear BK122; clear HB; have BK122 := n0_; have HB := n1_; clear n0_ n1_; (try clear hb); (try clear hb2); (try clear hk); (try clear hi); have hcz44_0 : w43.cell? ⟨gb122, 0, none⟩ = some (.int .i64 a0_0) := (blk_cell BK122.out 0).trans rfl; have hcz44_1 : w43.cell? ⟨gb122, 1, none⟩ = some (.string a0_1) := (blk_cell BK122.out 1).trans rfl; have hcz44_2 : w43.cell? ⟨gb122, 2, none⟩ = some (.string a0_2) := (blk_cell BK122.out 2).trans rfl; have hcz44_3 : w43.cell? ⟨gb122, 3, none⟩ = some (.slice A0_3 l0_3.length c0_3) := (blk_cell BK122.out 3).trans rfl; have hcz44_4 : w43.cell? ⟨gb122, 4, none⟩ = some (.string a0_4) := (blk_cell BK122.out 4).trans rfl; have hcz44_5 : w43.cell? ⟨gb122, 5, none⟩ = some (.string a0_5) := (blk_cell BK122.out 5).trans rfl; have hfz44_0 := blk_frozen BK122.out 0; have hfz44_1 := blk_frozen BK122.out 1; have hfz44_2 := blk_frozen BK122.out 2; have hfz44_3 := blk_frozen BK122.out 3; have hfz44_4 := blk_frozen BK122.out 4; have hfz44_5 := blk_frozen BK122.out 5) | (go_at_call 60; (with_reducible refine (def_vars.calls _ _ l0_3 false _ ?side1 ?side2 A14.out).mono ?_); (case side1 => repeat (first | exact (Kd.C_below HR0_3.out HB.out) | (with_reducible refine Kd.C_alloc ?_ _) | (with_reducible refine Kd.C_drewN ?_ _) | (with_reducible refine Kd.C_drew ?_))); (case side2 => exact HC0_3.out); rintro e w45 ⟨rfl, hb⟩; have n0_ := Aside0.mk (blk_below (g := gb122) (o := .cells #[.int .i64 a0_0, .string a0_1, .string a0_2, .slice A0_3 l0_3.length c0_3, .string a0_4, .string a0_5] 31 (0, 0)) (by (with_reducible repeat (first | refine blk_drewN ?_ _ | refine blk_drew ?_ | refine blk_alloc ?_ _)); exact BK122.out) hb); have n1_ := Aside0.mk (below_step (by repeat (first | (with_reducible first | exact HB.out | apply below_alloc | apply pw_below_drewN | apply below_drew1 | refine below_set ?_ GE122.out) | exact HB.out)) hb); clear BK122; clear HB; have BK122 := n0_; have HB := n1_; clear n0_ n1_; (try clear hb); (try clear hb2); (try clear hk); (try clear hi)))
            go_ret
            exact ⟨by first | rfl | (simp [errW_none, errW_some] <;> rfl) | (simp [*, errW_none, errW_some] <;> rfl), by repeat (first | (with_reducible first | exact HB.out | apply below_alloc | apply pw_below_drewN | apply below_drew1 | refine below_set ?_ GE122.out) | exact HB.out)⟩
        · replace c13 := Bool.eq_false_iff.mpr c13
          subst c13
          have H1 : (some false) = some r := by rw [if_neg (show ¬ (false = true) by decide)] at H; exact H
          clear H
          have H := H1
          clear H1
          obtain rfl := Option.some.inj H
          go_enter Tryd.func33, Tryd.ntmps33
          go_wp2_with (first | ((with_reducible refine gate_dst (N := 1) rfl ?_); (try (refine gate_guard (by rfl) ?_; dsimp only)); refine box_event ?hg (N := 1) ?hd (cs := #[.int .i64 a0_0, .string a0_1, .string a0_2, .slice A0_3 l0_3.length c0_3, .string a0_4, .string a0_5]) (t := 31) ?hr ?_; (case hd => rfl); (case hg => rfl); (case hr => first | (go_simp; done) | (go_simp; rfl)); intro gb122 hg w46 hbox hb; have n0_ := Aside0.mk (below_step (by repeat (first | (with_reducible first | exact HB.out | apply below_alloc | apply pw_below_drewN | apply below_drew1) | exact HB.out)) hb); have n1_ := Aside0.mk (hbox); have n2_ := Aside0.mk ((by rw [hg]; exact (below_size (by repeat (first | (with_reducible first | exact HB.out | apply below_alloc | apply pw_below_drewN | apply below_drew1) | exact HB.out))) : w.heap.size ≤ gb122)); have n3_ := Aside0.mk ((by rw [hg]; exact (below_size (by repeat (first | (with_reducible first | exact HB.out | apply below_alloc | apply pw_below_drewN | apply below_drew1) | exact HB.out))) : w.heap.size ≤ gb122)); clear HB; have HB := n0_; have BK122 := n1_; have GW122 := n2_; have GE122 := n3_; clear n0_ n1_ n2_ n3_; clear hb hbox hg; have hcz47_0 : w46.cell? ⟨gb122, 0, none⟩ = some (.int .i64 a0_0) := (blk_cell BK122.out 0).trans rfl; have hcz47_1 : w46.cell? ⟨gb122, 1, none⟩ = some (.string a0_1) := (blk_cell BK122.out 1).trans rfl; have hcz47_2 : w46.cell? ⟨gb122, 2, none⟩ = some (.string a0_2) := (blk_cell BK122.out 2).trans rfl; have hcz47_3 : w46.cell? ⟨gb122, 3, none⟩ = some (.slice A0_3 l0_3.length c0_3) := (blk_cell BK122.out 3).trans rfl; have hcz47_4 : w46.cell? ⟨gb122, 4, none⟩ = some (.string a0_4) := (blk_cell BK122.out 4).trans rfl; have hcz47_5 : w46.cell? ⟨gb122, 5, none⟩ = some (.string a0_5) := (blk_cell BK122.out 5).trans rfl; have hfz47_0 := blk_frozen BK122.out 0; have hfz47_1 := blk_frozen BK122.out 1; have hfz47_2 := blk_frozen BK122.out 2; have hfz47_3 := blk_frozen BK122.out 3; have hfz47_4 := blk_frozen BK122.out 4; have hfz47_5 := blk_frozen BK122.out 5) | ((with_reducible refine gate_callee (f := 58) rfl ?_); refine goesL_ (some 9) rfl rfl Tryd.func58 (by kernel_rfl) rfl #[.string a0_1] rfl (by (try simp only [List.map_toArray, List.map_cons, List.map_nil]); first | done | rfl | (simp only [List.length_drop, List.length_take]; rfl)) ?_; (with_reducible refine (name_Class.calls a0_1 true _ A3.out).mono ?_); rintro e w48 ⟨rfl, hb⟩; refine ⟨_, rfl, ?_⟩; have n0_ := Aside0.mk (blk_below (g := gb122) (o := .cells #[.int .i64 a0_0, .string a0_1, .string a0_2, .slice A0_3 l0_3.length c0_3, .string a0_4, .string a0_5] 31 (0, 0)) (by (with_reducible repeat (first | refine blk_drewN ?_ _ | refine blk_drew ?_ | refine blk_alloc ?_ _)); exact BK122.out) hb); have n1_ := Aside0.mk (below_step (by repeat (first | (with_reducible first | exact HB.out | apply below_alloc | apply pw_below_drewN | apply below_drew1 | refine below_set ?_ GE122.out) | exact HB.out)) hb); clear BK122; clear HB; have BK122 := n0_; have HB := n1_; clear n0_ n1_; (try clear hb); (try clear hb2); (try clear hk); (try clear hi); have hcz49_0 : w48.cell? ⟨gb122, 0, none⟩ = some (.int .i64 a0_0) := (blk_cell BK122.out 0).trans rfl; have hcz49_1 : w48.cell? ⟨gb122, 1, none⟩ = some (.string a0_1) := (blk_cell BK122.out 1).trans rfl; have hcz49_2 : w48.cell? ⟨gb122, 2, none⟩ = some (.string a0_2) := (blk_cell BK122.out 2).trans rfl; have hcz49_3 : w48.cell? ⟨gb122, 3, none⟩ = some (.slice A0_3 l0_3.length c0_3) := (blk_cell BK122.out 3).trans rfl; have hcz49_4 : w48.cell? ⟨gb122, 4, none⟩ = some (.string a0_4) := (blk_cell BK122.out 4).trans rfl; have hcz49_5 : w48.cell? ⟨gb122, 5, none⟩ = some (.string a0_5) := (blk_cell BK122.out 5).trans rfl; have hfz49_0 := blk_frozen BK122.out 0; have hfz49_1 := blk_frozen BK122.out 1; have hfz49_2 := blk_frozen BK122.out 2; have hfz49_3 := blk_frozen BK122.out 3; have hfz49_4 := blk_frozen BK122.out 4; have hfz49_5 := blk_frozen BK122.out 5) | (go_at_call 59; (with_reducible refine (name_Always.calls k a0_1 false _ A5.out).mono ?_); rintro e w50 ⟨rfl, hb⟩; have n0_ := Aside0.mk (blk_below (g := gb122) (o := .cells #[.int .i64 a0_0, .string a0_1, .string a0_2, .slice A0_3 l0_3.length c0_3, .string a0_4, .string a0_5] 31 (0, 0)) (by (with_reducible repeat (first | refine blk_drewN ?_ _ | refine blk_drew ?_ | refine blk_alloc ?_ _)); exact BK122.out) hb); have n1_ := Aside0.mk (below_step (by repeat (first | (with_reducible first | exact HB.out | apply below_alloc | apply pw_below_drewN | apply below_drew1 | refine below_set ?_ GE122.out) | exact HB.out)) hb); clear BK122; clear HB; have BK122 := n0_; have HB := n1_; clear n0_ n1_; (try clear hb); (try clear hb2); (try clear hk); (try clear hi); have hcz51_0 : w50.cell? ⟨gb122, 0, none⟩ = some (.int .i64 a0_0) := (blk_cell BK122.out 0).trans rfl; have hcz51_1 : w50.cell? ⟨gb122, 1, none⟩ = some (.string a0_1) := (blk_cell BK122.out 1).trans rfl; have hcz51_2 : w50.cell? ⟨gb122, 2, none⟩ = some (.string a0_2) := (blk_cell BK122.out 2).trans rfl; have hcz51_3 : w50.cell? ⟨gb122, 3, none⟩ = some (.slice A0_3 l0_3.length c0_3) := (blk_cell BK122.out 3).trans rfl; have hcz51_4 : w50.cell? ⟨gb122, 4, none⟩ = some (.string a0_4) := (blk_cell BK122.out 4).trans rfl; have hcz51_5 : w50.cell? ⟨gb122, 5, none⟩ = some (.string a0_5) := (blk_cell BK122.out 5).trans rfl; have hfz51_0 := blk_frozen BK122.out 0; have hfz51_1 := blk_frozen BK122.out 1; have hfz51_2 := blk_frozen BK122.out 2; have hfz51_3 := blk_frozen BK122.out 3; have hfz51_4 := blk_frozen BK122.out 4; have hfz51_5 := blk_frozen BK122.out 5) | (go_at_call 58; (with_reducible refine (name_Class.calls a0_2 false _ A12.out).mono ?_); rintro e w52 ⟨rfl, hb⟩; have n0_ := Aside0.mk (blk_below (g := gb122) (o := .cells #[.int .i64 a0_0, .string a0_1, .string a0_2, .slice A0_3 l0_3.length c0_3, .string a0_4, .string a0_5] 31 (0, 0)) (by (with_reducible repeat (first | refine blk_drewN ?_ _ | refine blk_drew ?_ | refine blk_alloc ?_ _)); exact BK122.out) hb); have n1_ := Aside0.mk (below_step (by repeat (first | (with_reducible first | exact HB.out | apply below_alloc | apply pw_below_drewN | apply below_drew1 | refine below_set ?_ GE122.out) | exact HB.out)) hb); clear BK122; clear HB; have BK122 := n0_; have HB := n1_; clear n0_ n1_; (try clear hb); (try clear hb2); (try clear hk); (try clear hi)))
          go_ret
          exact ⟨by first | rfl | (simp [errW_none, errW_some] <;> rfl) | (simp [*, errW_none, errW_some] <;> rfl), by repeat (first | (with_reducible first | exact HB.out | apply below_alloc | apply pw_below_drewN | apply below_drew1 | refine below_set ?_ GE122.out) | exact HB.out)⟩
    · replace c4 := Bool.eq_false_iff.mpr c4
      subst c4
      have H1 : (some false) = some r := by rw [if_neg (show ¬ (false = true) by decide)] at H; exact H
      clear H
      have H := H1
      clear H1
      obtain rfl := Option.some.inj H
      go_enter Tryd.func33, Tryd.ntmps33
      go_wp2_with (first | ((with_reducible refine gate_dst (N := 1) rfl ?_); (try (refine gate_guard (by rfl) ?_; dsimp only)); refine box_event ?hg (N := 1) ?hd (cs := #[.int .i64 a0_0, .string a0_1, .string a0_2, .slice A0_3 l0_3.length c0_3, .string a0_4, .string a0_5]) (t := 31) ?hr ?_; (case hd => rfl); (case hg => rfl); (case hr => first | (go_simp; done) | (go_simp; rfl)); intro gb122 hg w53 hbox hb; have n0_ := Aside0.mk (below_step (by repeat (first | (with_reducible first | exact HB.out | apply below_alloc | apply pw_below_drewN | apply below_drew1) | exact HB.out)) hb); have n1_ := Aside0.mk (hbox); have n2_ := Aside0.mk ((by rw [hg]; exact (below_size (by repeat (first | (with_reducible first | exact HB.out | apply below_alloc | apply pw_below_drewN | apply below_drew1) | exact HB.out))) : w.heap.size ≤ gb122)); have n3_ := Aside0.mk ((by rw [hg]; exact (below_size (by repeat (first | (with_reducible first | exact HB.out | apply below_alloc | apply pw_below_drewN | apply below_drew1) | exact HB.out))) : w.heap.size ≤ gb122)); clear HB; have HB := n0_; have BK122 := n1_; have GW122 := n2_; have GE122 := n3_; clear n0_ n1_ n2_ n3_; clear hb hbox hg; have hcz54_0 : w53.cell? ⟨gb122, 0, none⟩ = some (.int .i64 a0_0) := (blk_cell BK122.out 0).trans rfl; have hcz54_1 : w53.cell? ⟨gb122, 1, none⟩ = some (.string a0_1) := (blk_cell BK122.out 1).trans rfl; have hcz54_2 : w53.cell? ⟨gb122, 2, none⟩ = some (.string a0_2) := (blk_cell BK122.out 2).trans rfl; have hcz54_3 : w53.cell? ⟨gb122, 3, none⟩ = some (.slice A0_3 l0_3.length c0_3) := (blk_cell BK122.out 3).trans rfl; have hcz54_4 : w53.cell? ⟨gb122, 4, none⟩ = some (.string a0_4) := (blk_cell BK122.out 4).trans rfl; have hcz54_5 : w53.cell? ⟨gb122, 5, none⟩ = some (.string a0_5) := (blk_cell BK122.out 5).trans rfl; have hfz54_0 := blk_frozen BK122.out 0; have hfz54_1 := blk_frozen BK122.out 1; have hfz54_2 := blk_frozen BK122.out 2; have hfz54_3 := blk_frozen BK122.out 3; have hfz54_4 := blk_frozen BK122.out 4; have hfz54_5 := blk_frozen BK122.out 5) | ((with_reducible refine gate_callee (f := 58) rfl ?_); refine goesL_ (some 9) rfl rfl Tryd.func58 (by kernel_rfl) rfl #[.string a0_1] rfl (by (try simp only [List.map_toArray, List.map_cons, List.map_nil]); first | done | rfl | (simp only [List.length_drop, List.length_take]; rfl)) ?_; (with_reducible refine (name_Class.calls a0_1 false _ A3.out).mono ?_); rintro e w55 ⟨rfl, hb⟩; refine ⟨_, rfl, ?_⟩; have n0_ := Aside0.mk (blk_below (g := gb122) (o := .cells #[.int .i64 a0_0, .string a0_1, .string a0_2, .slice A0_3 l0_3.length c0_3, .string a0_4, .string a0_5] 31 (0, 0)) (by (with_reducible repeat (first | refine blk_drewN ?_ _ | refine blk_drew ?_ | refine blk_alloc ?_ _)); exact BK122.out) hb); have n1_ := Aside0.mk (below_step (by repeat (first | (with_reducible first | exact HB.out | apply below_alloc | apply pw_below_drewN | apply below_drew1 | refine below_set ?_ GE122.out) | exact HB.out)) hb); clear BK122; clear HB; have BK122 := n0_; have HB := n1_; clear n0_ n1_; (try clear hb); (try clear hb2); (try clear hk); (try clear hi)))
      go_ret
      exact ⟨by first | rfl | (simp [errW_none, errW_some] <;> rfl) | (simp [*, errW_none, errW_some] <;> rfl), by repeat (first | (with_reducible first | exact HB.out | apply below_alloc | apply pw_below_drewN | apply below_drew1 | refine below_set ?_ GE122.out) | exact HB.out)⟩
  · rw [if_neg c2] at H
    have c2b0 : (a0_0 == 1) = false := beq_eq_false_iff_ne.mpr c2
    have c2b1 : (a0_0 != 1) = true := bne_iff_ne.mpr c2
    by_cases c56 : a0_0 = 2
    · rw [if_pos c56] at H
      have c56b0 : (a0_0 == 2) = true := beq_iff_eq.mpr c56
      have c56b1 : (a0_0 != 2) = false := bne_eq_false_iff_eq.mpr c56
      clear c56
      replace H := Option.bind_eq_some_iff.mp H
      obtain ⟨t127, A570, H⟩ := H
      replace H : (if t127 = true then ((name_Kind.f a0_4).bind fun t128 => (if t128 = 0 then (some false) else (if (a0_5.size : Int) ≤ 4000 then (if a0_2.toList = ([] : List UInt8) then (some ((l0_3.length : Int) == 0)) else (some false)) else (some false)))) else (some false)) = some r := H
      have A57 := Aside0.mk A570
      clear A570
      by_cases c58 : t127 = true
      · subst c58
        have H1 : ((name_Kind.f a0_4).bind fun t128 => (if t128 = 0 then (some false) else (if (a0_5.size : Int) ≤ 4000 then (if a0_2.toList = ([] : List UInt8) then (some ((l0_3.length : Int) == 0)) else (some false)) else (some false)))) = some r := by rw [if_pos rfl] at H; exact H
        clear H
        have H := H1
        clear H1
        replace H := Option.bind_eq_some_iff.mp H
        obtain ⟨t128, A590, H⟩ := H
        replace H : (if t128 = 0 then (some false) else (if (a0_5.size : Int) ≤ 4000 then (if a0_2.toList = ([] : List UInt8) then (some ((l0_3.length : Int) == 0)) else (some false)) else (some false))) = some r := H
        have A59 := Aside0.mk A590
        clear A590
        by_cases c60 : t128 = 0
        · rw [if_pos c60] at H
          have c60b0 : (t128 == 0) = true := beq_iff_eq.mpr c60
          have c60b1 : (t128 != 0) = false := bne_eq_false_iff_eq.mpr c60
          clear c60
          obtain rfl := Option.some.inj H
          go_enter Tryd.func33, Tryd.ntmps33
          go_wp2_with (first | ((with_reducible refine gate_dst (N := 1) rfl ?_); (try (refine gate_guard (by rfl) ?_; dsimp only)); refine box_event ?hg (N := 1) ?hd (cs := #[.int .i64 a0_0, .string a0_1, .string a0_2, .slice A0_3 l0_3.length c0_3, .string a0_4, .string a0_5]) (t := 31) ?hr ?_; (case hd => rfl); (case hg => rfl); (case hr => first | (go_simp; done) | (go_simp; rfl)); intro gb122 hg w61 hbox hb; have n0_ := Aside0.mk (below_step (by repeat (first | (with_reducible first | exact HB.out | apply below_alloc | apply pw_below_drewN | apply below_drew1) | exact HB.out)) hb); have n1_ := Aside0.mk (hbox); have n2_ := Aside0.mk ((by rw [hg]; exact (below_size (by repeat (first | (with_reducible first | exact HB.out | apply below_alloc | apply pw_below_drewN | apply below_drew1) | exact HB.out))) : w.heap.size ≤ gb122)); have n3_ := Aside0.mk ((by rw [hg]; exact (below_size (by repeat (first | (with_reducible first | exact HB.out | apply below_alloc | apply pw_below_drewN | apply below_drew1) | exact HB.out))) : w.heap.size ≤ gb122)); clear HB; have HB := n0_; have BK122 := n1_; have GW122 := n2_; have GE122 := n3_; clear n0_ n1_ n2_ n3_; clear hb hbox hg; have hcz62_0 : w61.cell? ⟨gb122, 0, none⟩ = some (.int .i64 a0_0) := (blk_cell BK122.out 0).trans rfl; have hcz62_1 : w61.cell? ⟨gb122, 1, none⟩ = some (.string a0_1) := (blk_cell BK122.out 1).trans rfl; have hcz62_2 : w61.cell? ⟨gb122, 2, none⟩ = some (.string a0_2) := (blk_cell BK122.out 2).trans rfl; have hcz62_3 : w61.cell? ⟨gb122, 3, none⟩ = some (.slice A0_3 l0_3.length c0_3) := (blk_cell BK122.out 3).trans rfl; have hcz62_4 : w61.cell? ⟨gb122, 4, none⟩ = some (.string a0_4) := (blk_cell BK122.out 4).trans rfl; have hcz62_5 : w61.cell? ⟨gb122, 5, none⟩ = some (.string a0_5) := (blk_cell BK122.out 5).trans rfl; have hfz62_0 := blk_frozen BK122.out 0; have hfz62_1 := blk_frozen BK122.out 1; have hfz62_2 := blk_frozen BK122.out 2; have hfz62_3 := blk_frozen BK122.out 3; have hfz62_4 := blk_frozen BK122.out 4; have hfz62_5 := blk_frozen BK122.out 5) | ((with_reducible refine gate_callee (f := 58) rfl ?_); refine goesL_ (some 40) rfl rfl Tryd.func58 (by kernel_rfl) rfl #[.string a0_1] rfl (by (try simp only [List.map_toArray, List.map_cons, List.map_nil]); first | done | rfl | (simp only [List.length_drop, List.length_take]; rfl)) ?_; (with_reducible refine (name_Class.calls a0_1 true _ A57.out).mono ?_); rintro e w63 ⟨rfl, hb⟩; refine ⟨_, rfl, ?_⟩; have n0_ := Aside0.mk (blk_below (g := gb122) (o := .cells #[.int .i64 a0_0, .string a0_1, .string a0_2, .slice A0_3 l0_3.length c0_3, .string a0_4, .string a0_5] 31 (0, 0)) (by (with_reducible repeat (first | refine blk_drewN ?_ _ | refine blk_drew ?_ | refine blk_alloc ?_ _)); exact BK122.out) hb); have n1_ := Aside0.mk (below_step (by repeat (first | (with_reducible first | exact HB.out | apply below_alloc | apply pw_below_drewN | apply below_drew1 | refine below_set ?_ GE122.out) | exact HB.out)) hb); clear BK122; clear HB; have BK122 := n0_; have HB := n1_; clear n0_ n1_; (try clear hb); (try clear hb2); (try clear hk); (try clear hi); have hcz64_0 : w63.cell? ⟨gb122, 0, none⟩ = some (.int .i64 a0_0) := (blk_cell BK122.out 0).trans rfl; have hcz64_1 : w63.cell? ⟨gb122, 1, none⟩ = some (.string a0_1) := (blk_cell BK122.out 1).trans rfl; have hcz64_2 : w63.cell? ⟨gb122, 2, none⟩ = some (.string a0_2) := (blk_cell BK122.out 2).trans rfl; have hcz64_3 : w63.cell? ⟨gb122, 3, none⟩ = some (.slice A0_3 l0_3.length c0_3) := (blk_cell BK122.out 3).trans rfl; have hcz64_4 : w63.cell? ⟨gb122, 4, none⟩ = some (.string a0_4) := (blk_cell BK122.out 4).trans rfl; have hcz64_5 : w63.cell? ⟨gb122, 5, none⟩ = some (.string a0_5) := (blk_cell BK122.out 5).trans rfl; have hfz64_0 := blk_frozen BK122.out 0; have hfz64_1 := blk_frozen BK122.out 1; have hfz64_2 := blk_frozen BK122.out 2; have hfz64_3 := blk_frozen BK122.out 3; have hfz64_4 := blk_frozen BK122.out 4; have hfz64_5 := blk_frozen BK122.out 5) | (go_at_call 61; (with_reducible refine (name_Kind.calls a0_4 t128 _ A59.out).mono ?_); rintro e w65 ⟨rfl, hb⟩; have n0_ := Aside0.mk (blk_below (g := gb122) (o := .cells #[.int .i64 a0_0, .string a0_1, .string a0_2, .slice A0_3 l0_3.length c0_3, .string a0_4, .string a0_5] 31 (0, 0)) (by (with_reducible repeat (first | refine blk_drewN ?_ _ | refine blk_drew ?_ | refine blk_alloc ?_ _)); exact BK122.out) hb); have n1_ := Aside0.mk (below_step (by repeat (first | (with_reducible first | exact HB.out | apply below_alloc | apply pw_below_drewN | apply below_drew1 | refine below_set ?_ GE122.out) | exact HB.out)) hb); clear BK122; clear HB; have BK122 := n0_; have HB := n1_; clear n0_ n1_; (try clear hb); (try clear hb2); (try clear hk); (try clear hi)))
          go_ret
          exact ⟨by first | rfl | (simp [errW_none, errW_some] <;> rfl) | (simp [*, errW_none, errW_some] <;> rfl), by repeat (first | (with_reducible first | exact HB.out | apply below_alloc | apply pw_below_drewN | apply below_drew1 | refine below_set ?_ GE122.out) | exact HB.out)⟩
        · rw [if_neg c60] at H
          have c60b0 : (t128 == 0) = false := beq_eq_false_iff_ne.mpr c60
          have c60b1 : (t128 != 0) = true := bne_iff_ne.mpr c60
          by_cases c66 : (a0_5.size : Int) ≤ 4000
          · rw [if_pos c66] at H
            have c66b0 : decide ((a0_5.size : Int) ≤ 4000) = true := decide_eq_true c66
            have c66b1 : decide (a0_5.size ≤ 4000) = true := decide_eq_true (by omega)
            clear c66
            by_cases c67 : a0_2.toList = ([] : List UInt8)
            · rw [if_pos c67] at H
              have c67b0 : (a0_2.toList == ([] : List UInt8)) = true := beq_iff_eq.mpr c67
              have c67b1 : (a0_2.toList != ([] : List UInt8)) = false := bne_eq_false_iff_eq.mpr c67
              clear c67
              obtain rfl := Option.some.inj H
              go_enter Tryd.func33, Tryd.ntmps33
              go_wp2_with (first | ((with_reducible refine gate_dst (N := 1) rfl ?_); (try (refine gate_guard (by rfl) ?_; dsimp only)); refine box_event ?hg (N := 1) ?hd (cs := #[.int .i64 a0_0, .string a0_1, .string a0_2, .slice A0_3 l0_3.length c0_3, .string a0_4, .string a0_5]) (t := 31) ?hr ?_; (case hd => rfl); (case hg => rfl); (case hr => first | (go_simp; done) | (go_simp; rfl)); intro gb122 hg w68 hbox hb; have n0_ := Aside0.mk (below_step (by repeat (first | (with_reducible first | exact HB.out | apply below_alloc | apply pw_below_drewN | apply below_drew1) | exact HB.out)) hb); have n1_ := Aside0.mk (hbox); have n2_ := Aside0.mk ((by rw [hg]; exact (below_size (by repeat (first | (with_reducible first | exact HB.out | apply below_alloc | apply pw_below_drewN | apply below_drew1) | exact HB.out))) : w.heap.size ≤ gb122)); have n3_ := Aside0.mk ((by rw [hg]; exact (below_size (by repeat (first | (with_reducible first | exact HB.out | apply below_alloc | apply pw_below_drewN | apply below_drew1) | exact HB.out))) : w.heap.size ≤ gb122)); clear HB; have HB := n0_; have BK122 := n1_; have GW122 := n2_; have GE122 := n3_; clear n0_ n1_ n2_ n3_; clear hb hbox hg; have hcz69_0 : w68.cell? ⟨gb122, 0, none⟩ = some (.int .i64 a0_0) := (blk_cell BK122.out 0).trans rfl; have hcz69_1 : w68.cell? ⟨gb122, 1, none⟩ = some (.string a0_1) := (blk_cell BK122.out 1).trans rfl; have hcz69_2 : w68.cell? ⟨gb122, 2, none⟩ = some (.string a0_2) := (blk_cell BK122.out 2).trans rfl; have hcz69_3 : w68.cell? ⟨gb122, 3, none⟩ = some (.slice A0_3 l0_3.length c0_3) := (blk_cell BK122.out 3).trans rfl; have hcz69_4 : w68.cell? ⟨gb122, 4, none⟩ = some (.string a0_4) := (blk_cell BK122.out 4).trans rfl; have hcz69_5 : w68.cell? ⟨gb122, 5, none⟩ = some (.string a0_5) := (blk_cell BK122.out 5).trans rfl; have hfz69_0 := blk_frozen BK122.out 0; have hfz69_1 := blk_frozen BK122.out 1; have hfz69_2 := blk_frozen BK122.out 2; have hfz69_3 := blk_frozen BK122.out 3; have hfz69_4 := blk_frozen BK122.out 4; have hfz69_5 := blk_frozen BK122.out 5) | ((with_reducible refine gate_callee (f := 58) rfl ?_); refine goesL_ (some 40) rfl rfl Tryd.func58 (by kernel_rfl) rfl #[.string a0_1] rfl (by (try simp only [List.map_toArray, List.map_cons, List.map_nil]); first | done | rfl | (simp only [List.length_drop, List.length_take]; rfl)) ?_; (with_reducible refine (name_Class.calls a0_1 true _ A57.out).mono ?_); rintro e w70 ⟨rfl, hb⟩; refine ⟨_, rfl, ?_⟩; have n0_ := Aside0.mk (blk_below (g := gb122) (o := .cells #[.int .i64 a0_0, .string a0_1, .string a0_2, .slice A0_3 l0_3.length c0_3, .string a0_4, .string a0_5] 31 (0, 0)) (by (with_reducible repeat (first | refine blk_drewN ?_ _ | refine blk_drew ?_ | refine blk_alloc ?_ _)); exact BK122.out) hb); have n1_ := Aside0.mk (below_step (by repeat (first | (with_reducible first | exact HB.out | apply below_alloc | apply pw_below_drewN | apply below_drew1 | refine below_set ?_ GE122.out) | exact HB.out)) hb); clear BK122; clear HB; have BK122 := n0_; have HB := n1_; clear n0_ n1_; (try clear hb); (try clear hb2); (try clear hk); (try clear hi); have hcz71_0 : w70.cell? ⟨gb122, 0, none⟩ = some (.int .i64 a0_0) := (blk_cell BK122.out 0).trans rfl; have hcz71_1 : w70.cell? ⟨gb122, 1, none⟩ = some (.string a0_1) := (blk_cell BK122.out 1).trans rfl; have hcz71_2 : w70.cell? ⟨gb122, 2, none⟩ = some (.string a0_2) := (blk_cell BK122.out 2).trans rfl; have hcz71_3 : w70.cell? ⟨gb122, 3, none⟩ = some (.slice A0_3 l0_3.length c0_3) := (blk_cell BK122.out 3).trans rfl; have hcz71_4 : w70.cell? ⟨gb122, 4, none⟩ = some (.string a0_4) := (blk_cell BK122.out 4).trans rfl; have hcz71_5 : w70.cell? ⟨gb122, 5, none⟩ = some (.string a0_5) := (blk_cell BK122.out 5).trans rfl; have hfz71_0 := blk_frozen BK122.out 0; have hfz71_1 := blk_frozen BK122.out 1; have hfz71_2 := blk_frozen BK122.out 2; have hfz71_3 := blk_frozen BK122.out 3; have hfz71_4 := blk_frozen BK122.out 4; have hfz71_5 := blk_frozen BK122.out 5) | (go_at_call 61; (with_reducible refine (name_Kind.calls a0_4 t128 _ A59.out).mono ?_); rintro e w72 ⟨rfl, hb⟩; have n0_ := Aside0.mk (blk_below (g := gb122) (o := .cells #[.int .i64 a0_0, .string a0_1, .string a0_2, .slice A0_3 l0_3.length c0_3, .string a0_4, .string a0_5] 31 (0, 0)) (by (with_reducible repeat (first | refine blk_drewN ?_ _ | refine blk_drew ?_ | refine blk_alloc ?_ _)); exact BK122.out) hb); have n1_ := Aside0.mk (below_step (by repeat (first | (with_reducible first | exact HB.out | apply below_alloc | apply pw_below_drewN | apply below_drew1 | refine below_set ?_ GE122.out) | exact HB.out)) hb); clear BK122; clear HB; have BK122 := n0_; have HB := n1_; clear n0_ n1_; (try clear hb); (try clear hb2); (try clear hk); (try clear hi); have hcz73_0 : w72.cell? ⟨gb122, 0, none⟩ = some (.int .i64 a0_0) := (blk_cell BK122.out 0).trans rfl; have hcz73_1 : w72.cell? ⟨gb122, 1, none⟩ = some (.string a0_1) := (blk_cell BK122.out 1).trans rfl; have hcz73_2 : w72.cell? ⟨gb122, 2, none⟩ = some (.string a0_2) := (blk_cell BK122.out 2).trans rfl; have hcz73_3 : w72.cell? ⟨gb122, 3, none⟩ = some (.slice A0_3 l0_3.length c0_3) := (blk_cell BK122.out 3).trans rfl; have hcz73_4 : w72.cell? ⟨gb122, 4, none⟩ = some (.string a0_4) := (blk_cell BK122.out 4).trans rfl; have hcz73_5 : w72.cell? ⟨gb122, 5, none⟩ = some (.string a0_5) := (blk_cell BK122.out 5).trans rfl; have hfz73_0 := blk_frozen BK122.out 0; have hfz73_1 := blk_frozen BK122.out 1; have hfz73_2 := blk_frozen BK122.out 2; have hfz73_3 := blk_frozen BK122.out 3; have hfz73_4 := blk_frozen BK122.out 4; have hfz73_5 := blk_frozen BK122.out 5))
              go_ret
              exact ⟨by first | rfl | (simp [errW_none, errW_some] <;> rfl) | (simp [*, errW_none, errW_some] <;> rfl), by repeat (first | (with_reducible first | exact HB.out | apply below_alloc | apply pw_below_drewN | apply below_drew1 | refine below_set ?_ GE122.out) | exact HB.out)⟩
            · rw [if_neg c67] at H
              have c67b0 : (a0_2.toList == ([] : List UInt8)) = false := beq_eq_false_iff_ne.mpr c67
              have c67b1 : (a0_2.toList != ([] : List UInt8)) = true := bne_iff_ne.mpr c67
              obtain rfl := Option.some.inj H
              go_enter Tryd.func33, Tryd.ntmps33
              go_wp2_with (first | ((with_reducible refine gate_dst (N := 1) rfl ?_); (try (refine gate_guard (by rfl) ?_; dsimp only)); refine box_event ?hg (N := 1) ?hd (cs := #[.int .i64 a0_0, .string a0_1, .string a0_2, .slice A0_3 l0_3.length c0_3, .string a0_4, .string a0_5]) (t := 31) ?hr ?_; (case hd => rfl); (case hg => rfl); (case hr => first | (go_simp; done) | (go_simp; rfl)); intro gb122 hg w74 hbox hb; have n0_ := Aside0.mk (below_step (by repeat (first | (with_reducible first | exact HB.out | apply below_alloc | apply pw_below_drewN | apply below_drew1) | exact HB.out)) hb); have n1_ := Aside0.mk (hbox); have n2_ := Aside0.mk ((by rw [hg]; exact (below_size (by repeat (first | (with_reducible first | exact HB.out | apply below_alloc | apply pw_below_drewN | apply below_drew1) | exact HB.out))) : w.heap.size ≤ gb122)); have n3_ := Aside0.mk ((by rw [hg]; exact (below_size (by repeat (first | (with_reducible first | exact HB.out | apply below_alloc | apply pw_below_drewN | apply below_drew1) | exact HB.out))) : w.heap.size ≤ gb122)); clear HB; have HB := n0_; have BK122 := n1_; have GW122 := n2_; have GE122 := n3_; clear n0_ n1_ n2_ n3_; clear hb hbox hg; have hcz75_0 : w74.cell? ⟨gb122, 0, none⟩ = some (.int .i64 a0_0) := (blk_cell BK122.out 0).trans rfl; have hcz75_1 : w74.cell? ⟨gb122, 1, none⟩ = some (.string a0_1) := (blk_cell BK122.out 1).trans rfl; have hcz75_2 : w74.cell? ⟨gb122, 2, none⟩ = some (.string a0_2) := (blk_cell BK122.out 2).trans rfl; have hcz75_3 : w74.cell? ⟨gb122, 3, none⟩ = some (.slice A0_3 l0_3.length c0_3) := (blk_cell BK122.out 3).trans rfl; have hcz75_4 : w74.cell? ⟨gb122, 4, none⟩ = some (.string a0_4) := (blk_cell BK122.out 4).trans rfl; have hcz75_5 : w74.cell? ⟨gb122, 5, none⟩ = some (.string a0_5) := (blk_cell BK122.out 5).trans rfl; have hfz75_0 := blk_frozen BK122.out 0; have hfz75_1 := blk_frozen BK122.out 1; have hfz75_2 := blk_frozen BK122.out 2; have hfz75_3 := blk_frozen BK122.out 3; have hfz75_4 := blk_frozen BK122.out 4; have hfz75_5 := blk_frozen BK122.out 5) | ((with_reducible refine gate_callee (f := 58) rfl ?_); refine goesL_ (some 40) rfl rfl Tryd.func58 (by kernel_rfl) rfl #[.string a0_1] rfl (by (try simp only [List.map_toArray, List.map_cons, List.map_nil]); first | done | rfl | (simp only [List.length_drop, List.length_take]; rfl)) ?_; (with_reducible refine (name_Class.calls a0_1 true _ A57.out).mono ?_); rintro e w76 ⟨rfl, hb⟩; refine ⟨_, rfl, ?_⟩; have n0_ := Aside0.mk (blk_below (g := gb122) (o := .cells #[.int .i64 a0_0, .string a0_1, .string a0_2, .slice A0_3 l0_3.length c0_3, .string a0_4, .string a0_5] 31 (0, 0)) (by (with_reducible repeat (first | refine blk_drewN ?_ _ | refine blk_drew ?_ | refine blk_alloc ?_ _)); exact BK122.out) hb); have n1_ := Aside0.mk (below_step (by repeat (first | (with_reducible first | exact HB.out | apply below_alloc | apply pw_below_drewN | apply below_drew1 | refine below_set ?_ GE122.out) | exact HB.out)) hb); clear BK122; clear HB; have BK122 := n0_; have HB := n1_; clear n0_ n1_; (try clear hb); (try clear hb2); (try clear hk); (try clear hi); have hcz77_0 : w76.cell? ⟨gb122, 0, none⟩ = some (.int .i64 a0_0) := (blk_cell BK122.out 0).trans rfl; have hcz77_1 : w76.cell? ⟨gb122, 1, none⟩ = some (.string a0_1) := (blk_cell BK122.out 1).trans rfl; have hcz77_2 : w76.cell? ⟨gb122, 2, none⟩ = some (.string a0_2) := (blk_cell BK122.out 2).trans rfl; have hcz77_3 : w76.cell? ⟨gb122, 3, none⟩ = some (.slice A0_3 l0_3.length c0_3) := (blk_cell BK122.out 3).trans rfl; have hcz77_4 : w76.cell? ⟨gb122, 4, none⟩ = some (.string a0_4) := (blk_cell BK122.out 4).trans rfl; have hcz77_5 : w76.cell? ⟨gb122, 5, none⟩ = some (.string a0_5) := (blk_cell BK122.out 5).trans rfl; have hfz77_0 := blk_frozen BK122.out 0; have hfz77_1 := blk_frozen BK122.out 1; have hfz77_2 := blk_frozen BK122.out 2; have hfz77_3 := blk_frozen BK122.out 3; have hfz77_4 := blk_frozen BK122.out 4; have hfz77_5 := blk_frozen BK122.out 5) | (go_at_call 61; (with_reducible refine (name_Kind.calls a0_4 t128 _ A59.out).mono ?_); rintro e w78 ⟨rfl, hb⟩; have n0_ := Aside0.mk (blk_below (g := gb122) (o := .cells #[.int .i64 a0_0, .string a0_1, .string a0_2, .slice A0_3 l0_3.length c0_3, .string a0_4, .string a0_5] 31 (0, 0)) (by (with_reducible repeat (first | refine blk_drewN ?_ _ | refine blk_drew ?_ | refine blk_alloc ?_ _)); exact BK122.out) hb); have n1_ := Aside0.mk (below_step (by repeat (first | (with_reducible first | exact HB.out | apply below_alloc | apply pw_below_drewN | apply below_drew1 | refine below_set ?_ GE122.out) | exact HB.out)) hb); clear BK122; clear HB; have BK122 := n0_; have HB := n1_; clear n0_ n1_; (try clear hb); (try clear hb2); (try clear hk); (try clear hi); have hcz79_0 : w78.cell? ⟨gb122, 0, none⟩ = some (.int .i64 a0_0) := (blk_cell BK122.out 0).trans rfl; have hcz79_1 : w78.cell? ⟨gb122, 1, none⟩ = some (.string a0_1) := (blk_cell BK122.out 1).trans rfl; have hcz79_2 : w78.cell? ⟨gb122, 2, none⟩ = some (.string a0_2) := (blk_cell BK122.out 2).trans rfl; have hcz79_3 : w78.cell? ⟨gb122, 3, none⟩ = some (.slice A0_3 l0_3.length c0_3) := (blk_cell BK122.out 3).trans rfl; have hcz79_4 : w78.cell? ⟨gb122, 4, none⟩ = some (.string a0_4) := (blk_cell BK122.out 4).trans rfl; have hcz79_5 : w78.cell? ⟨gb122, 5, none⟩ = some (.string a0_5) := (blk_cell BK122.out 5).trans rfl; have hfz79_0 := blk_frozen BK122.out 0; have hfz79_1 := blk_frozen BK122.out 1; have hfz79_2 := blk_frozen BK122.out 2; have hfz79_3 := blk_frozen BK122.out 3; have hfz79_4 := blk_frozen BK122.out 4; have hfz79_5 := blk_frozen BK122.out 5))
              go_ret
              exact ⟨by first | rfl | (simp [errW_none, errW_some] <;> rfl) | (simp [*, errW_none, errW_some] <;> rfl), by repeat (first | (with_reducible first | exact HB.out | apply below_alloc | apply pw_below_drewN | apply below_drew1 | refine below_set ?_ GE122.out) | exact HB.out)⟩
          · rw [if_neg c66] at H
            have c66b0 : decide ((a0_5.size : Int) ≤ 4000) = false := decide_eq_false c66
            have c66b1 : decide (a0_5.size ≤ 4000) = false := decide_eq_false (by omega)
            clear c66
            obtain rfl := Option.some.inj H
            go_enter Tryd.func33, Tryd.ntmps33
            go_wp2_with (first | ((with_reducible refine gate_dst (N := 1) rfl ?_); (try (refine gate_guard (by rfl) ?_; dsimp only)); refine box_event ?hg (N := 1) ?hd (cs := #[.int .i64 a0_0, .string a0_1, .string a0_2, .slice A0_3 l0_3.length c0_3, .string a0_4, .string a0_5]) (t := 31) ?hr ?_; (case hd => rfl); (case hg => rfl); (case hr => first | (go_simp; done) | (go_simp; rfl)); intro gb122 hg w80 hbox hb; have n0_ := Aside0.mk (below_step (by repeat (first | (with_reducible first | exact HB.out | apply below_alloc | apply pw_below_drewN | apply below_drew1) | exact HB.out)) hb); have n1_ := Aside0.mk (hbox); have n2_ := Aside0.mk ((by rw [hg]; exact (below_size (by repeat (first | (with_reducible first | exact HB.out | apply below_alloc | apply pw_below_drewN | apply below_drew1) | exact HB.out))) : w.heap.size ≤ gb122)); have n3_ := Aside0.mk ((by rw [hg]; exact (below_size (by repeat (first | (with_reducible first | exact HB.out | apply below_alloc | apply pw_below_drewN | apply below_drew1) | exact HB.out))) : w.heap.size ≤ gb122)); clear HB; have HB := n0_; have BK122 := n1_; have GW122 := n2_; have GE122 := n3_; clear n0_ n1_ n2_ n3_; clear hb hbox hg; have hcz81_0 : w80.cell? ⟨gb122, 0, none⟩ = some (.int .i64 a0_0) := (blk_cell BK122.out 0).trans rfl; have hcz81_1 : w80.cell? ⟨gb122, 1, none⟩ = some (.string a0_1) := (blk_cell BK122.out 1).trans rfl; have hcz81_2 : w80.cell? ⟨gb122, 2, none⟩ = some (.string a0_2) := (blk_cell BK122.out 2).trans rfl; have hcz81_3 : w80.cell? ⟨gb122, 3, none⟩ = some (.slice A0_3 l0_3.length c0_3) := (blk_cell BK122.out 3).trans rfl; have hcz81_4 : w80.cell? ⟨gb122, 4, none⟩ = some (.string a0_4) := (blk_cell BK122.out 4).trans rfl; have hcz81_5 : w80.cell? ⟨gb122, 5, none⟩ = some (.string a0_5) := (blk_cell BK122.out 5).trans rfl; have hfz81_0 := blk_frozen BK122.out 0; have hfz81_1 := blk_frozen BK122.out 1; have hfz81_2 := blk_frozen BK122.out 2; have hfz81_3 := blk_frozen BK122.out 3; have hfz81_4 := blk_frozen BK122.out 4; have hfz81_5 := blk_frozen BK122.out 5) | ((with_reducible refine gate_callee (f := 58) rfl ?_); refine goesL_ (some 40) rfl rfl Tryd.func58 (by kernel_rfl) rfl #[.string a0_1] rfl (by (try simp only [List.map_toArray, List.map_cons, List.map_nil]); first | done | rfl | (simp only [List.length_drop, List.length_take]; rfl)) ?_; (with_reducible refine (name_Class.calls a0_1 true _ A57.out).mono ?_); rintro e w82 ⟨rfl, hb⟩; refine ⟨_, rfl, ?_⟩; have n0_ := Aside0.mk (blk_below (g := gb122) (o := .cells #[.int .i64 a0_0, .string a0_1, .string a0_2, .slice A0_3 l0_3.length c0_3, .string a0_4, .string a0_5] 31 (0, 0)) (by (with_reducible repeat (first | refine blk_drewN ?_ _ | refine blk_drew ?_ | refine blk_alloc ?_ _)); exact BK122.out) hb); have n1_ := Aside0.mk (below_step (by repeat (first | (with_reducible first | exact HB.out | apply below_alloc | apply pw_below_drewN | apply below_drew1 | refine below_set ?_ GE122.out) | exact HB.out)) hb); clear BK122; clear HB; have BK122 := n0_; have HB := n1_; clear n0_ n1_; (try clear hb); (try clear hb2); (try clear hk); (try clear hi); have hcz83_0 : w82.cell? ⟨gb122, 0, none⟩ = some (.int .i64 a0_0) := (blk_cell BK122.out 0).trans rfl; have hcz83_1 : w82.cell? ⟨gb122, 1, none⟩ = some (.string a0_1) := (blk_cell BK122.out 1).trans rfl; have hcz83_2 : w82.cell? ⟨gb122, 2, none⟩ = some (.string a0_2) := (blk_cell BK122.out 2).trans rfl; have hcz83_3 : w82.cell? ⟨gb122, 3, none⟩ = some (.slice A0_3 l0_3.length c0_3) := (blk_cell BK122.out 3).trans rfl; have hcz83_4 : w82.cell? ⟨gb122, 4, none⟩ = some (.string a0_4) := (blk_cell BK122.out 4).trans rfl; have hcz83_5 : w82.cell? ⟨gb122, 5, none⟩ = some (.string a0_5) := (blk_cell BK122.out 5).trans rfl; have hfz83_0 := blk_frozen BK122.out 0; have hfz83_1 := blk_frozen BK122.out 1; have hfz83_2 := blk_frozen BK122.out 2; have hfz83_3 := blk_frozen BK122.out 3; have hfz83_4 := blk_frozen BK122.out 4; have hfz83_5 := blk_frozen BK122.out 5) | (go_at_call 61; (with_reducible refine (name_Kind.calls a0_4 t128 _ A59.out).mono ?_); rintro e w84 ⟨rfl, hb⟩; have n0_ := Aside0.mk (blk_below (g := gb122) (o := .cells #[.int .i64 a0_0, .string a0_1, .string a0_2, .slice A0_3 l0_3.length c0_3, .string a0_4, .string a0_5] 31 (0, 0)) (by (with_reducible repeat (first | refine blk_drewN ?_ _ | refine blk_drew ?_ | refine blk_alloc ?_ _)); exact BK122.out) hb); have n1_ := Aside0.mk (below_step (by repeat (first | (with_reducible first | exact HB.out | apply below_alloc | apply pw_below_drewN | apply below_drew1 | refine below_set ?_ GE122.out) | exact HB.out)) hb); clear BK122; clear HB; have BK122 := n0_; have HB := n1_; clear n0_ n1_; (try clear hb); (try clear hb2); (try clear hk); (try clear hi); have hcz85_0 : w84.cell? ⟨gb122, 0, none⟩ = some (.int .i64 a0_0) := (blk_cell BK122.out 0).trans rfl; have hcz85_1 : w84.cell? ⟨gb122, 1, none⟩ = some (.string a0_1) := (blk_cell BK122.out 1).trans rfl; have hcz85_2 : w84.cell? ⟨gb122, 2, none⟩ = some (.string a0_2) := (blk_cell BK122.out 2).trans rfl; have hcz85_3 : w84.cell? ⟨gb122, 3, none⟩ = some (.slice A0_3 l0_3.length c0_3) := (blk_cell BK122.out 3).trans rfl; have hcz85_4 : w84.cell? ⟨gb122, 4, none⟩ = some (.string a0_4) := (blk_cell BK122.out 4).trans rfl; have hcz85_5 : w84.cell? ⟨gb122, 5, none⟩ = some (.string a0_5) := (blk_cell BK122.out 5).trans rfl; have hfz85_0 := blk_frozen BK122.out 0; have hfz85_1 := blk_frozen BK122.out 1; have hfz85_2 := blk_frozen BK122.out 2; have hfz85_3 := blk_frozen BK122.out 3; have hfz85_4 := blk_frozen BK122.out 4; have hfz85_5 := blk_frozen BK122.out 5))
            go_ret
            exact ⟨by first | rfl | (simp [errW_none, errW_some] <;> rfl) | (simp [*, errW_none, errW_some] <;> rfl), by repeat (first | (with_reducible first | exact HB.out | apply below_alloc | apply pw_below_drewN | apply below_drew1 | refine below_set ?_ GE122.out) | exact HB.out)⟩
      · replace c58 := Bool.eq_false_iff.mpr c58
        subst c58
        have H1 : (some false) = some r := by rw [if_neg (show ¬ (false = true) by decide)] at H; exact H
        clear H
        have H := H1
        clear H1
        obtain rfl := Option.some.inj H
        go_enter Tryd.func33, Tryd.ntmps33
        go_wp2_with (first | ((with_reducible refine gate_dst (N := 1) rfl ?_); (try (refine gate_guard (by rfl) ?_; dsimp only)); refine box_event ?hg (N := 1) ?hd (cs := #[.int .i64 a0_0, .string a0_1, .string a0_2, .slice A0_3 l0_3.length c0_3, .string a0_4, .string a0_5]) (t := 31) ?hr ?_; (case hd => rfl); (case hg => rfl); (case hr => first | (go_simp; done) | (go_simp; rfl)); intro gb122 hg w86 hbox hb; have n0_ := Aside0.mk (below_step (by repeat (first | (with_reducible first | exact HB.out | apply below_alloc | apply pw_below_drewN | apply below_drew1) | exact HB.out)) hb); have n1_ := Aside0.mk (hbox); have n2_ := Aside0.mk ((by rw [hg]; exact (below_size (by repeat (first | (with_reducible first | exact HB.out | apply below_alloc | apply pw_below_drewN | apply below_drew1) | exact HB.out))) : w.heap.size ≤ gb122)); have n3_ := Aside0.mk ((by rw [hg]; exact (below_size (by repeat (first | (with_reducible first | exact HB.out | apply below_alloc | apply pw_below_drewN | apply below_drew1) | exact HB.out))) : w.heap.size ≤ gb122)); clear HB; have HB := n0_; have BK122 := n1_; have GW122 := n2_; have GE122 := n3_; clear n0_ n1_ n2_ n3_; clear hb hbox hg; have hcz87_0 : w86.cell? ⟨gb122, 0, none⟩ = some (.int .i64 a0_0) := (blk_cell BK122.out 0).trans rfl; have hcz87_1 : w86.cell? ⟨gb122, 1, none⟩ = some (.string a0_1) := (blk_cell BK122.out 1).trans rfl; have hcz87_2 : w86.cell? ⟨gb122, 2, none⟩ = some (.string a0_2) := (blk_cell BK122.out 2).trans rfl; have hcz87_3 : w86.cell? ⟨gb122, 3, none⟩ = some (.slice A0_3 l0_3.length c0_3) := (blk_cell BK122.out 3).trans rfl; have hcz87_4 : w86.cell? ⟨gb122, 4, none⟩ = some (.string a0_4) := (blk_cell BK122.out 4).trans rfl; have hcz87_5 : w86.cell? ⟨gb122, 5, none⟩ = some (.string a0_5) := (blk_cell BK122.out 5).trans rfl; have hfz87_0 := blk_frozen BK122.out 0; have hfz87_1 := blk_frozen BK122.out 1; have hfz87_2 := blk_frozen BK122.out 2; have hfz87_3 := blk_frozen BK122.out 3; have hfz87_4 := blk_frozen BK122.out 4; have hfz87_5 := blk_frozen BK122.out 5) | ((with_reducible refine gate_callee (f := 58) rfl ?_); refine goesL_ (some 40) rfl rfl Tryd.func58 (by kernel_rfl) rfl #[.string a0_1] rfl (by (try simp only [List.map_toArray, List.map_cons, List.map_nil]); first | done | rfl | (simp only [List.length_drop, List.length_take]; rfl)) ?_; (with_reducible refine (name_Class.calls a0_1 false _ A57.out).mono ?_); rintro e w88 ⟨rfl, hb⟩; refine ⟨_, rfl, ?_⟩; have n0_ := Aside0.mk (blk_below (g := gb122) (o := .cells #[.int .i64 a0_0, .string a0_1, .string a0_2, .slice A0_3 l0_3.length c0_3, .string a0_4, .string a0_5] 31 (0, 0)) (by (with_reducible repeat (first | refine blk_drewN ?_ _ | refine blk_drew ?_ | refine blk_alloc ?_ _)); exact BK122.out) hb); have n1_ := Aside0.mk (below_step (by repeat (first | (with_reducible first | exact HB.out | apply below_alloc | apply pw_below_drewN | apply below_drew1 | refine below_set ?_ GE122.out) | exact HB.out)) hb); clear BK122; clear HB; have BK122 := n0_; have HB := n1_; clear n0_ n1_; (try clear hb); (try clear hb2); (try clear hk); (try clear hi)))
        go_ret
        exact ⟨by first | rfl | (simp [errW_none, errW_some] <;> rfl) | (simp [*, errW_none, errW_some] <;> rfl), by repeat (first | (with_reducible first | exact HB.out | apply below_alloc | apply pw_below_drewN | apply below_drew1 | refine below_set ?_ GE122.out) | exact HB.out)⟩
    · rw [if_neg c56] at H
      have c56b0 : (a0_0 == 2) = false := beq_eq_false_iff_ne.mpr c56
      have c56b1 : (a0_0 != 2) = true := bne_iff_ne.mpr c56
      obtain rfl := Option.some.inj H
      go_enter Tryd.func33, Tryd.ntmps33
      go_wp2_with (first | ((with_reducible refine gate_dst (N := 1) rfl ?_); (try (refine gate_guard (by rfl) ?_; dsimp only)); refine box_event ?hg (N := 1) ?hd (cs := #[.int .i64 a0_0, .string a0_1, .string a0_2, .slice A0_3 l0_3.length c0_3, .string a0_4, .string a0_5]) (t := 31) ?hr ?_; (case hd => rfl); (case hg => rfl); (case hr => first | (go_simp; done) | (go_simp; rfl)); intro gb122 hg w89 hbox hb; have n0_ := Aside0.mk (below_step (by repeat (first | (with_reducible first | exact HB.out | apply below_alloc | apply pw_below_drewN | apply below_drew1) | exact HB.out)) hb); have n1_ := Aside0.mk (hbox); have n2_ := Aside0.mk ((by rw [hg]; exact (below_size (by repeat (first | (with_reducible first | exact HB.out | apply below_alloc | apply pw_below_drewN | apply below_drew1) | exact HB.out))) : w.heap.size ≤ gb122)); have n3_ := Aside0.mk ((by rw [hg]; exact (below_size (by repeat (first | (with_reducible first | exact HB.out | apply below_alloc | apply pw_below_drewN | apply below_drew1) | exact HB.out))) : w.heap.size ≤ gb122)); clear HB; have HB := n0_; have BK122 := n1_; have GW122 := n2_; have GE122 := n3_; clear n0_ n1_ n2_ n3_; clear hb hbox hg; have hcz90_0 : w89.cell? ⟨gb122, 0, none⟩ = some (.int .i64 a0_0) := (blk_cell BK122.out 0).trans rfl; have hcz90_1 : w89.cell? ⟨gb122, 1, none⟩ = some (.string a0_1) := (blk_cell BK122.out 1).trans rfl; have hcz90_2 : w89.cell? ⟨gb122, 2, none⟩ = some (.string a0_2) := (blk_cell BK122.out 2).trans rfl; have hcz90_3 : w89.cell? ⟨gb122, 3, none⟩ = some (.slice A0_3 l0_3.length c0_3) := (blk_cell BK122.out 3).trans rfl; have hcz90_4 : w89.cell? ⟨gb122, 4, none⟩ = some (.string a0_4) := (blk_cell BK122.out 4).trans rfl; have hcz90_5 : w89.cell? ⟨gb122, 5, none⟩ = some (.string a0_5) := (blk_cell BK122.out 5).trans rfl; have hfz90_0 := blk_frozen BK122.out 0; have hfz90_1 := blk_frozen BK122.out 1; have hfz90_2 := blk_frozen BK122.out 2; have hfz90_3 := blk_frozen BK122.out 3; have hfz90_4 := blk_frozen BK122.out 4; have hfz90_5 := blk_frozen BK122.out 5))
      go_ret
      exact ⟨by first | rfl | (simp [errW_none, errW_some] <;> rfl) | (simp [*, errW_none, errW_some] <;> rfl), by repeat (first | (with_reducible first | exact HB.out | apply below_alloc | apply pw_below_drewN | apply below_drew1 | refine below_set ?_ GE122.out) | exact HB.out)⟩

/-! ### def_Key: function 29 -/
def def_Key.f (k : Nat) (a0_0 : Int) (a0_1 : ByteArray) (a0_2 : ByteArray) (l0_3 : List ByteArray) (a0_4 : ByteArray) (a0_5 : ByteArray) : Option (ByteArray) := (def_Right.f k a0_0 a0_1 a0_2 l0_3 a0_4 a0_5).bind fun t130 => (if t130 = true then (if a0_0 = 1 then (some a0_1) else (if a0_1.size + 2 ≤ 9223372036854775807 then (if (a0_1 ++ (⟨#[62, 62]⟩ : ByteArray)).size + a0_4.size ≤ 9223372036854775807 then (some ((a0_1 ++ (⟨#[62, 62]⟩ : ByteArray)) ++ a0_4)) else (none)) else (none))) else (some (⟨#[]⟩ : ByteArray)))
theorem def_Key.mono : ∀ a0 a1 a2 a3 a4 a5 k, LeO (def_Key.f k a0 a1 a2 a3 a4 a5) (def_Key.f (k + 1) a0 a1 a2 a3 a4 a5) := by
  intro a0 a1 a2 a3 a4 a5 k
  unfold def_Key.f
  repeat' first
      | (with_reducible exact def_Right.mono _ _ _ _ _ _ _)
      | (with_reducible exact LeO.refl _)
      | (with_reducible exact LeO.none _)
      | (with_reducible refine LeO.ite ?_ ?_)
      | (with_reducible refine LeO.bind ?_ (fun _ => ?_))
      | exact def_Right.mono _ _ _ _ _ _ _
      | exact LeO.none _
      | refine LeO.ite ?_ ?_
      | refine LeO.bind ?_ (fun _ => ?_)
set_option maxHeartbeats 8000000 in
set_option maxRecDepth 100000 in
theorem def_Key.calls (k : Nat) (a0_0 : Int) (a0_1 : ByteArray) (a0_2 : ByteArray) (A0_3 : Option Addr) (c0_3 : Nat) (l0_3 : List ByteArray) (a0_4 : ByteArray) (a0_5 : ByteArray) (r : ByteArray) (w : World) (hr0_3 : Kd.C Kd.string w A0_3 l0_3.length l0_3) (hc0_3 : l0_3.length ≤ c0_3) (h : def_Key.f k a0_0 a0_1 a0_2 l0_3 a0_4 a0_5 = some r) :
    Calls Tryd.prog 29 #[.agg #[.int .i64 a0_0, .string a0_1, .string a0_2, .slice A0_3 l0_3.length c0_3, .string a0_4, .string a0_5]] w fun e w' => e = .returned (.string r) ∧ Below w.heap.size w w' := by
  have hu31 := Tryd.underlying31
  have HR0_3 := Aside0.mk hr0_3
  have HC0_3 := Aside0.mk hc0_3
  clear hr0_3 hc0_3
  have HB := Aside0.mk (Below.refl w.heap.size w)
  have H : ((def_Right.f k a0_0 a0_1 a0_2 l0_3 a0_4 a0_5).bind fun t130 => (if t130 = true then (if a0_0 = 1 then (some a0_1) else (if a0_1.size + 2 ≤ 9223372036854775807 then (if (a0_1 ++ (⟨#[62, 62]⟩ : ByteArray)).size + a0_4.size ≤ 9223372036854775807 then (some ((a0_1 ++ (⟨#[62, 62]⟩ : ByteArray)) ++ a0_4)) else (none)) else (none))) else (some (⟨#[]⟩ : ByteArray)))) = some r := h
  clear h
  replace H := Option.bind_eq_some_iff.mp H
  obtain ⟨t130, A20, H⟩ := H
  replace H : (if t130 = true then (if a0_0 = 1 then (some a0_1) else (if a0_1.size + 2 ≤ 9223372036854775807 then (if (a0_1 ++ (⟨#[62, 62]⟩ : ByteArray)).size + a0_4.size ≤ 9223372036854775807 then (some ((a0_1 ++ (⟨#[62, 62]⟩ : ByteArray)) ++ a0_4)) else (none)) else (none))) else (some (⟨#[]⟩ : ByteArray))) = some r := H
  have A2 := Aside0.mk A20
  clear A20
  by_cases c3 : t130 = true
  · subst c3
    have H1 : (if a0_0 = 1 then (some a0_1) else (if a0_1.size + 2 ≤ 9223372036854775807 then (if (a0_1 ++ (⟨#[62, 62]⟩ : ByteArray)).size + a0_4.size ≤ 9223372036854775807 then (some ((a0_1 ++ (⟨#[62, 62]⟩ : ByteArray)) ++ a0_4)) else (none)) else (none))) = some r := by rw [if_pos rfl] at H; exact H
    clear H
    have H := H1
    clear H1
    by_cases c4 : a0_0 = 1
    · rw [if_pos c4] at H
      have c4b0 : (a0_0 == 1) = true := beq_iff_eq.mpr c4
      have c4b1 : (a0_0 != 1) = false := bne_eq_false_iff_eq.mpr c4
      clear c4
      obtain rfl := Option.some.inj H
      go_enter Tryd.func29, Tryd.ntmps29
      go_wp2_with (first | ((with_reducible refine gate_dst (N := 1) rfl ?_); refine box_event ?hg (N := 1) ?hd (cs := #[.int .i64 a0_0, .string a0_1, .string a0_2, .slice A0_3 l0_3.length c0_3, .string a0_4, .string a0_5]) (t := 31) ?hr ?_; (case hd => rfl); (case hg => rfl); (case hr => first | (go_simp; done) | (go_simp; rfl)); intro gb129 hg w5 hbox hb; have n0_ := Aside0.mk (below_step (by repeat (first | (with_reducible first | exact HB.out | apply below_alloc | apply pw_below_drewN | apply below_drew1) | exact HB.out)) hb); have n1_ := Aside0.mk (hbox); have n2_ := Aside0.mk ((by rw [hg]; exact (below_size (by repeat (first | (with_reducible first | exact HB.out | apply below_alloc | apply pw_below_drewN | apply below_drew1) | exact HB.out))) : w.heap.size ≤ gb129)); have n3_ := Aside0.mk ((by rw [hg]; exact (below_size (by repeat (first | (with_reducible first | exact HB.out | apply below_alloc | apply pw_below_drewN | apply below_drew1) | exact HB.out))) : w.heap.size ≤ gb129)); clear HB; have HB := n0_; have BK129 := n1_; have GW129 := n2_; have GE129 := n3_; clear n0_ n1_ n2_ n3_; clear hb hbox hg; have hcz6_0 : w5.cell? ⟨gb129, 0, none⟩ = some (.int .i64 a0_0) := (blk_cell BK129.out 0).trans rfl; have hcz6_1 : w5.cell? ⟨gb129, 1, none⟩ = some (.string a0_1) := (blk_cell BK129.out 1).trans rfl; have hcz6_2 : w5.cell? ⟨gb129, 2, none⟩ = some (.string a0_2) := (blk_cell BK129.out 2).trans rfl; have hcz6_3 : w5.cell? ⟨gb129, 3, none⟩ = some (.slice A0_3 l0_3.length c0_3) := (blk_cell BK129.out 3).trans rfl; have hcz6_4 : w5.cell? ⟨gb129, 4, none⟩ = some (.string a0_4) := (blk_cell BK129.out 4).trans rfl; have hcz6_5 : w5.cell? ⟨gb129, 5, none⟩ = some (.string a0_5) := (blk_cell BK129.out 5).trans rfl; have hfz6_0 := blk_frozen BK129.out 0; have hfz6_1 := blk_frozen BK129.out 1; have hfz6_2 := blk_frozen BK129.out 2; have hfz6_3 := blk_frozen BK129.out 3; have hfz6_4 := blk_frozen BK129.out 4; have hfz6_5 := blk_frozen BK129.out 5) | ((with_reducible refine gate_callee (f := 33) rfl ?_); refine goesL_ (some 5) rfl rfl Tryd.func33 (by kernel_rfl) rfl #[.agg #[.int .i64 a0_0, .string a0_1, .string a0_2, .slice A0_3 l0_3.length c0_3, .string a0_4, .string a0_5]] rfl (by (try simp only [List.map_toArray, List.map_cons, List.map_nil]); first | done | rfl | (simp only [List.length_drop, List.length_take]; rfl)) ?_; (with_reducible refine (def_Right.calls k a0_0 a0_1 a0_2 _ _ l0_3 a0_4 a0_5 true _ ?side1 ?side2 A2.out).mono ?_); (case side1 => repeat (first | exact (Kd.C_below HR0_3.out HB.out) | (with_reducible refine Kd.C_alloc ?_ _) | (with_reducible refine Kd.C_drewN ?_ _) | (with_reducible refine Kd.C_drew ?_))); (case side2 => exact HC0_3.out); rintro e w7 ⟨rfl, hb⟩; refine ⟨_, rfl, ?_⟩; have n0_ := Aside0.mk (blk_below (g := gb129) (o := .cells #[.int .i64 a0_0, .string a0_1, .string a0_2, .slice A0_3 l0_3.length c0_3, .string a0_4, .string a0_5] 31 (0, 0)) (by (with_reducible repeat (first | refine blk_drewN ?_ _ | refine blk_drew ?_ | refine blk_alloc ?_ _)); exact BK129.out) hb); have n1_ := Aside0.mk (below_step (by repeat (first | (with_reducible first | exact HB.out | apply below_alloc | apply pw_below_drewN | apply below_drew1 | refine below_set ?_ GE129.out) | exact HB.out)) hb); clear BK129; clear HB; have BK129 := n0_; have HB := n1_; clear n0_ n1_; (try clear hb); (try clear hb2); (try clear hk); (try clear hi); have hcz8_0 : w7.cell? ⟨gb129, 0, none⟩ = some (.int .i64 a0_0) := (blk_cell BK129.out 0).trans rfl; have hcz8_1 : w7.cell? ⟨gb129, 1, none⟩ = some (.string a0_1) := (blk_cell BK129.out 1).trans rfl; have hcz8_2 : w7.cell? ⟨gb129, 2, none⟩ = some (.string a0_2) := (blk_cell BK129.out 2).trans rfl; have hcz8_3 : w7.cell? ⟨gb129, 3, none⟩ = some (.slice A0_3 l0_3.length c0_3) := (blk_cell BK129.out 3).trans rfl; have hcz8_4 : w7.cell? ⟨gb129, 4, none⟩ = some (.string a0_4) := (blk_cell BK129.out 4).trans rfl; have hcz8_5 : w7.cell? ⟨gb129, 5, none⟩ = some (.string a0_5) := (blk_cell BK129.out 5).trans rfl; have hfz8_0 := blk_frozen BK129.out 0; have hfz8_1 := blk_frozen BK129.out 1; have hfz8_2 := blk_frozen BK129.out 2; have hfz8_3 := blk_frozen BK129.out 3; have hfz8_4 := blk_frozen BK129.out 4; have hfz8_5 := blk_frozen BK129.out 5))
      go_ret
      exact ⟨by first | rfl | (simp [errW_none, errW_some] <;> rfl) | (simp [*, errW_none, errW_some] <;> rfl), by repeat (first | (with_reducible first | exact HB.out | apply below_alloc | apply pw_below_drewN | apply below_drew1 | refine below_set ?_ GE129.out) | exact HB.out)⟩
    · rw [if_neg c4] at H
      have c4b0 : (a0_0 == 1) = false := beq_eq_false_iff_ne.mpr c4
      have c4b1 : (a0_0 != 1) = true := bne_iff_ne.mpr c4
      by_cases c9 : a0_1.size + 2 ≤ 9223372036854775807
      · rw [if_pos c9] at H
        have c9b0 := eq_true c9
        have c9b1 : decide (a0_1.size + 2 ≤ 9223372036854775807) = true := decide_eq_true c9
        try have c9b2 : (9223372036854775807 < a0_1.size + 2) = False := eq_false (Nat.not_lt.2 c9)
        by_cases c10 : (a0_1 ++ (⟨#[62, 62]⟩ : ByteArray)).size + a0_4.size ≤ 9223372036854775807
        · rw [if_pos c10] at H
          have c10b0 := eq_true c10
          have c10b1 : decide ((a0_1 ++ (⟨#[62, 62]⟩ : ByteArray)).size + a0_4.size ≤ 9223372036854775807) = true := decide_eq_true c10
          try have c10b2 : (9223372036854775807 < (a0_1 ++ (⟨#[62, 62]⟩ : ByteArray)).size + a0_4.size) = False := eq_false (Nat.not_lt.2 c10)
          obtain rfl := Option.some.inj H
          go_enter Tryd.func29, Tryd.ntmps29
          go_wp2_with (first | ((with_reducible refine gate_dst (N := 1) rfl ?_); refine box_event ?hg (N := 1) ?hd (cs := #[.int .i64 a0_0, .string a0_1, .string a0_2, .slice A0_3 l0_3.length c0_3, .string a0_4, .string a0_5]) (t := 31) ?hr ?_; (case hd => rfl); (case hg => rfl); (case hr => first | (go_simp; done) | (go_simp; rfl)); intro gb129 hg w11 hbox hb; have n0_ := Aside0.mk (below_step (by repeat (first | (with_reducible first | exact HB.out | apply below_alloc | apply pw_below_drewN | apply below_drew1) | exact HB.out)) hb); have n1_ := Aside0.mk (hbox); have n2_ := Aside0.mk ((by rw [hg]; exact (below_size (by repeat (first | (with_reducible first | exact HB.out | apply below_alloc | apply pw_below_drewN | apply below_drew1) | exact HB.out))) : w.heap.size ≤ gb129)); have n3_ := Aside0.mk ((by rw [hg]; exact (below_size (by repeat (first | (with_reducible first | exact HB.out | apply below_alloc | apply pw_below_drewN | apply below_drew1) | exact HB.out))) : w.heap.size ≤ gb129)); clear HB; have HB := n0_; have BK129 := n1_; have GW129 := n2_; have GE129 := n3_; clear n0_ n1_ n2_ n3_; clear hb hbox hg; have hcz12_0 : w11.cell? ⟨gb129, 0, none⟩ = some (.int .i64 a0_0) := (blk_cell BK129.out 0).trans rfl; have hcz12_1 : w11.cell? ⟨gb129, 1, none⟩ = some (.string a0_1) := (blk_cell BK129.out 1).trans rfl; have hcz12_2 : w11.cell? ⟨gb129, 2, none⟩ = some (.string a0_2) := (blk_cell BK129.out 2).trans rfl; have hcz12_3 : w11.cell? ⟨gb129, 3, none⟩ = some (.slice A0_3 l0_3.length c0_3) := (blk_cell BK129.out 3).trans rfl; have hcz12_4 : w11.cell? ⟨gb129, 4, none⟩ = some (.string a0_4) := (blk_cell BK129.out 4).trans rfl; have hcz12_5 : w11.cell? ⟨gb129, 5, none⟩ = some (.string a0_5) := (blk_cell BK129.out 5).trans rfl; have hfz12_0 := blk_frozen BK129.out 0; have hfz12_1 := blk_frozen BK129.out 1; have hfz12_2 := blk_frozen BK129.out 2; have hfz12_3 := blk_frozen BK129.out 3; have hfz12_4 := blk_frozen BK129.out 4; have hfz12_5 := blk_frozen BK129.out 5) | ((with_reducible refine gate_callee (f := 33) rfl ?_); refine goesL_ (some 5) rfl rfl Tryd.func33 (by kernel_rfl) rfl #[.agg #[.int .i64 a0_0, .string a0_1, .string a0_2, .slice A0_3 l0_3.length c0_3, .string a0_4, .string a0_5]] rfl (by (try simp only [List.map_toArray, List.map_cons, List.map_nil]); first | done | rfl | (simp only [List.length_drop, List.length_take]; rfl)) ?_; (with_reducible refine (def_Right.calls k a0_0 a0_1 a0_2 _ _ l0_3 a0_4 a0_5 true _ ?side1 ?side2 A2.out).mono ?_); (case side1 => repeat (first | exact (Kd.C_below HR0_3.out HB.out) | (with_reducible refine Kd.C_alloc ?_ _) | (with_reducible refine Kd.C_drewN ?_ _) | (with_reducible refine Kd.C_drew ?_))); (case side2 => exact HC0_3.out); rintro e w13 ⟨rfl, hb⟩; refine ⟨_, rfl, ?_⟩; have n0_ := Aside0.mk (blk_below (g := gb129) (o := .cells #[.int .i64 a0_0, .string a0_1, .string a0_2, .slice A0_3 l0_3.length c0_3, .string a0_4, .string a0_5] 31 (0, 0)) (by (with_reducible repeat (first | refine blk_drewN ?_ _ | refine blk_drew ?_ | refine blk_alloc ?_ _)); exact BK129.out) hb); have n1_ := Aside0.mk (below_step (by repeat (first | (with_reducible first | exact HB.out | apply below_alloc | apply pw_below_drewN | apply below_drew1 | refine below_set ?_ GE129.out) | exact HB.out)) hb); clear BK129; clear HB; have BK129 := n0_; have HB := n1_; clear n0_ n1_; (try clear hb); (try clear hb2); (try clear hk); (try clear hi); have hcz14_0 : w13.cell? ⟨gb129, 0, none⟩ = some (.int .i64 a0_0) := (blk_cell BK129.out 0).trans rfl; have hcz14_1 : w13.cell? ⟨gb129, 1, none⟩ = some (.string a0_1) := (blk_cell BK129.out 1).trans rfl; have hcz14_2 : w13.cell? ⟨gb129, 2, none⟩ = some (.string a0_2) := (blk_cell BK129.out 2).trans rfl; have hcz14_3 : w13.cell? ⟨gb129, 3, none⟩ = some (.slice A0_3 l0_3.length c0_3) := (blk_cell BK129.out 3).trans rfl; have hcz14_4 : w13.cell? ⟨gb129, 4, none⟩ = some (.string a0_4) := (blk_cell BK129.out 4).trans rfl; have hcz14_5 : w13.cell? ⟨gb129, 5, none⟩ = some (.string a0_5) := (blk_cell BK129.out 5).trans rfl; have hfz14_0 := blk_frozen BK129.out 0; have hfz14_1 := blk_frozen BK129.out 1; have hfz14_2 := blk_frozen BK129.out 2; have hfz14_3 := blk_frozen BK129.out 3; have hfz14_4 := blk_frozen BK129.out 4; have hfz14_5 := blk_frozen BK129.out 5))
          go_ret
          exact ⟨by first | rfl | (simp [errW_none, errW_some] <;> rfl) | (simp [*, errW_none, errW_some] <;> rfl), by repeat (first | (with_reducible first | exact HB.out | apply below_alloc | apply pw_below_drewN | apply below_drew1 | refine below_set ?_ GE129.out) | exact HB.out)⟩
        · rw [if_neg c10] at H
          exact absurd H (by simp)
      · rw [if_neg c9] at H
        exact absurd H (by simp)
  · replace c3 := Bool.eq_false_iff.mpr c3
    subst c3
    have H1 : (some (⟨#[]⟩ : ByteArray)) = some r := by rw [if_neg (show ¬ (false = true) by decide)] at H; exact H
    clear H
    have H := H1
    clear H1
    obtain rfl := Option.some.inj H
    go_enter Tryd.func29, Tryd.ntmps29
    go_wp2_with (first | ((with_reducible refine gate_dst (N := 1) rfl ?_); refine box_event ?hg (N := 1) ?hd (cs := #[.int .i64 a0_0, .string a0_1, .string a0_2, .slice A0_3 l0_3.length c0_3, .string a0_4, .string a0_5]) (t := 31) ?hr ?_; (case hd => rfl); (case hg => rfl); (case hr => first | (go_simp; done) | (go_simp; rfl)); intro gb129 hg w15 hbox hb; have n0_ := Aside0.mk (below_step (by repeat (first | (with_reducible first | exact HB.out | apply below_alloc | apply pw_below_drewN | apply below_drew1) | exact HB.out)) hb); have n1_ := Aside0.mk (hbox); have n2_ := Aside0.mk ((by rw [hg]; exact (below_size (by repeat (first | (with_reducible first | exact HB.out | apply below_alloc | apply pw_below_drewN | apply below_drew1) | exact HB.out))) : w.heap.size ≤ gb129)); have n3_ := Aside0.mk ((by rw [hg]; exact (below_size (by repeat (first | (with_reducible first | exact HB.out | apply below_alloc | apply pw_below_drewN | apply below_drew1) | exact HB.out))) : w.heap.size ≤ gb129)); clear HB; have HB := n0_; have BK129 := n1_; have GW129 := n2_; have GE129 := n3_; clear n0_ n1_ n2_ n3_; clear hb hbox hg; have hcz16_0 : w15.cell? ⟨gb129, 0, none⟩ = some (.int .i64 a0_0) := (blk_cell BK129.out 0).trans rfl; have hcz16_1 : w15.cell? ⟨gb129, 1, none⟩ = some (.string a0_1) := (blk_cell BK129.out 1).trans rfl; have hcz16_2 : w15.cell? ⟨gb129, 2, none⟩ = some (.string a0_2) := (blk_cell BK129.out 2).trans rfl; have hcz16_3 : w15.cell? ⟨gb129, 3, none⟩ = some (.slice A0_3 l0_3.length c0_3) := (blk_cell BK129.out 3).trans rfl; have hcz16_4 : w15.cell? ⟨gb129, 4, none⟩ = some (.string a0_4) := (blk_cell BK129.out 4).trans rfl; have hcz16_5 : w15.cell? ⟨gb129, 5, none⟩ = some (.string a0_5) := (blk_cell BK129.out 5).trans rfl; have hfz16_0 := blk_frozen BK129.out 0; have hfz16_1 := blk_frozen BK129.out 1; have hfz16_2 := blk_frozen BK129.out 2; have hfz16_3 := blk_frozen BK129.out 3; have hfz16_4 := blk_frozen BK129.out 4; have hfz16_5 := blk_frozen BK129.out 5) | ((with_reducible refine gate_callee (f := 33) rfl ?_); refine goesL_ (some 5) rfl rfl Tryd.func33 (by kernel_rfl) rfl #[.agg #[.int .i64 a0_0, .string a0_1, .string a0_2, .slice A0_3 l0_3.length c0_3, .string a0_4, .string a0_5]] rfl (by (try simp only [List.map_toArray, List.map_cons, List.map_nil]); first | done | rfl | (simp only [List.length_drop, List.length_take]; rfl)) ?_; (with_reducible refine (def_Right.calls k a0_0 a0_1 a0_2 _ _ l0_3 a0_4 a0_5 false _ ?side1 ?side2 A2.out).mono ?_); (case side1 => repeat (first | exact (Kd.C_below HR0_3.out HB.out) | (with_reducible refine Kd.C_alloc ?_ _) | (with_reducible refine Kd.C_drewN ?_ _) | (with_reducible refine Kd.C_drew ?_))); (case side2 => exact HC0_3.out); rintro e w17 ⟨rfl, hb⟩; refine ⟨_, rfl, ?_⟩; have n0_ := Aside0.mk (blk_below (g := gb129) (o := .cells #[.int .i64 a0_0, .string a0_1, .string a0_2, .slice A0_3 l0_3.length c0_3, .string a0_4, .string a0_5] 31 (0, 0)) (by (with_reducible repeat (first | refine blk_drewN ?_ _ | refine blk_drew ?_ | refine blk_alloc ?_ _)); exact BK129.out) hb); have n1_ := Aside0.mk (below_step (by repeat (first | (with_reducible first | exact HB.out | apply below_alloc | apply pw_below_drewN | apply below_drew1 | refine below_set ?_ GE129.out) | exact HB.out)) hb); clear BK129; clear HB; have BK129 := n0_; have HB := n1_; clear n0_ n1_; (try clear hb); (try clear hb2); (try clear hk); (try clear hi)))
    go_ret
    exact ⟨by first | rfl | (simp [errW_none, errW_some] <;> rfl) | (simp [*, errW_none, errW_some] <;> rfl), by repeat (first | (with_reducible first | exact HB.out | apply below_alloc | apply pw_below_drewN | apply below_drew1 | refine below_set ?_ GE129.out) | exact HB.out)⟩

/-! ### slices_Equal_string_string: function 68 -/
def slices_Equal_string_string.l0 : Nat → List ByteArray → List ByteArray → Int → Int → Option (Bool)
  | 0, _, _, _, _ => none
  | k + 1, x0, x1, x12, x13 => if x13 < x12 then (if 0 ≤ x13 then (if x13 < (x0.length : Int) then (if x13 < (x1.length : Int) then (if (rdOf ByteArray.empty x0 x13).toList = (rdOf ByteArray.empty x1 x13).toList then (slices_Equal_string_string.l0 k x0 x1 x12 (wrap64 (x13 + 1))) else (some false)) else (none)) else (none)) else (none)) else (some true)
def slices_Equal_string_string.f (k : Nat) (l0 : List ByteArray) (l1 : List ByteArray) : Option (Bool) := if (l0.length : Int) = (l1.length : Int) then (slices_Equal_string_string.l0 k l0 l1 (l0.length : Int) 0) else (some false)
theorem slices_Equal_string_string.mono_l : ∀ k, (∀ y0 y1 y2 y3, LeO (slices_Equal_string_string.l0 k y0 y1 y2 y3) (slices_Equal_string_string.l0 (k + 1) y0 y1 y2 y3))
  | 0 => fun _ _ _ _ r h => by simp [slices_Equal_string_string.l0] at h
  | k + 1 => by
    have ih0 := slices_Equal_string_string.mono_l k
    · intro y0 y1 y2 y3
      unfold slices_Equal_string_string.l0
      repeat' first
      | (with_reducible exact ih0 _ _ _ _)
      | (with_reducible exact LeO.refl _)
      | (with_reducible exact LeO.none _)
      | (with_reducible refine LeO.ite ?_ ?_)
      | (with_reducible refine LeO.bind ?_ (fun _ => ?_))
      | exact ih0 _ _ _ _
      | exact LeO.none _
      | refine LeO.ite ?_ ?_
      | refine LeO.bind ?_ (fun _ => ?_)
theorem slices_Equal_string_string.mono : ∀ a0 a1 k, LeO (slices_Equal_string_string.f k a0 a1) (slices_Equal_string_string.f (k + 1) a0 a1) := by
  intro a0 a1 k
  have ih0 := slices_Equal_string_string.mono_l k
  unfold slices_Equal_string_string.f
  repeat' first
      | (with_reducible exact ih0 _ _ _ _)
      | (with_reducible exact LeO.refl _)
      | (with_reducible exact LeO.none _)
      | (with_reducible refine LeO.ite ?_ ?_)
      | (with_reducible refine LeO.bind ?_ (fun _ => ?_))
      | exact ih0 _ _ _ _
      | exact LeO.none _
      | refine LeO.ite ?_ ?_
      | refine LeO.bind ?_ (fun _ => ?_)
set_option maxHeartbeats 8000000 in
set_option maxRecDepth 100000 in
theorem slices_Equal_string_string.calls (k : Nat) (A0 : Option Addr) (c0 : Nat) (l0 : List ByteArray) (A1 : Option Addr) (c1 : Nat) (l1 : List ByteArray) (r : Bool) (w : World) (hr0 : Kd.C Kd.string w A0 l0.length l0) (hc0 : l0.length ≤ c0) (hr1 : Kd.C Kd.string w A1 l1.length l1) (hc1 : l1.length ≤ c1) (h : slices_Equal_string_string.f k l0 l1 = some r) :
    Calls Tryd.prog 68 #[.slice A0 l0.length c0, .slice A1 l1.length c1] w fun e w' => e = .returned (.bool r) ∧ Drawn0 w w' := by
  have HR0 := Aside0.mk hr0
  have HC0 := Aside0.mk hc0
  clear hr0 hc0
  have HR1 := Aside0.mk hr1
  have HC1 := Aside0.mk hc1
  clear hr1 hc1
  have H : (if (l0.length : Int) = (l1.length : Int) then (slices_Equal_string_string.l0 k l0 l1 (l0.length : Int) 0) else (some false)) = some r := h
  clear h
  by_cases c3 : (l0.length : Int) = (l1.length : Int)
  · rw [if_pos c3] at H
    have c3b0 : ((l0.length : Int) == (l1.length : Int)) = true := beq_iff_eq.mpr c3
    have c3b1 : ((l0.length : Int) != (l1.length : Int)) = false := bne_eq_false_iff_eq.mpr c3
    have c3b2 : (l0.length == l1.length) = true := by first | simpa using c3 | (simp at c3 ⊢; omega)
    clear c3
    have H' := Aside0.mk H
    clear H
    go_enter Tryd.func68, Tryd.ntmps68
    go_wp2
    repeat (go_quiet (fail); try go_wp2)
    go_loopg [13] k (fun kq v13 w' => ∃ (x13_1 : Int), v13 = .int .i64 x13_1 ∧ Aside0 (slices_Equal_string_string.l0 kq l0 l1 (l0.length : Int) x13_1 = some r) ∧ Aside0 (kq ≤ k) ∧ Drawn0 w w')
    case atStart => exact ⟨(0), (by first | rfl | (simp; done) | (simp [*]; done)), H', ⟨Nat.le_refl _⟩, by repeat (first | exact Drawn0.refl _ | apply Drawn0.step)⟩
    case round =>
      clear H'
      try clear c1
      try clear p2
      try clear c3
      try clear c3b0
      try clear c3b1
      try clear c3b2
      obtain ⟨x13_1, rfl, HA, HK1, ⟨m1, rfl⟩⟩ := hrel
      cases gk with
      | zero => exact absurd HA.out (by simp [slices_Equal_string_string.l0])
      | succ k1 =>
        have H := HA.out
        clear HA
        simp only [slices_Equal_string_string.l0] at H
        by_cases c4 : x13_1 < (l0.length : Int)
        · rw [if_pos c4] at H
          have c4b0 : decide (x13_1 < (l0.length : Int)) = true := decide_eq_true c4
          clear c4
          by_cases c5 : 0 ≤ x13_1
          · rw [if_pos c5] at H
            have c5b0 : decide (0 ≤ x13_1) = true := decide_eq_true c5
            clear c5
            by_cases c6 : x13_1 < (l0.length : Int)
            · rw [if_pos c6] at H
              have c6b0 : decide (x13_1 < (l0.length : Int)) = true := decide_eq_true c6
              clear c6
              by_cases c7 : x13_1 < (l1.length : Int)
              · rw [if_pos c7] at H
                have c7b0 : decide (x13_1 < (l1.length : Int)) = true := decide_eq_true c7
                clear c7
                by_cases c8 : (rdOf ByteArray.empty l0 x13_1).toList = (rdOf ByteArray.empty l1 x13_1).toList
                · rw [if_pos c8] at H
                  have c8b0 : ((rdOf ByteArray.empty l0 x13_1).toList == (rdOf ByteArray.empty l1 x13_1).toList) = true := beq_iff_eq.mpr c8
                  have c8b1 : ((rdOf ByteArray.empty l0 x13_1).toList != (rdOf ByteArray.empty l1 x13_1).toList) = false := bne_eq_false_iff_eq.mpr c8
                  clear c8
                  have H' := Aside0.mk H
                  clear H
                  have p131 : 0 ≤ (x13_1 : Int) := of_decide_eq_true (by first | (with_reducible assumption) | assumption)
                  have q131 : x13_1 < (l0.length : Int) := of_decide_eq_true (by first | (with_reducible assumption) | assumption)
                  obtain ⟨ad131, e131, hx131_0⟩ := Kd.at_string HR0.out x13_1 p131 q131
                  cases e131
                  replace p131 := eq_true p131
                  replace q131 := eq_true q131
                  have p132 : 0 ≤ (x13_1 : Int) := of_decide_eq_true (by first | (with_reducible assumption) | assumption)
                  have q132 : x13_1 < (l1.length : Int) := of_decide_eq_true (by first | (with_reducible assumption) | assumption)
                  obtain ⟨ad132, e132, hx132_0⟩ := Kd.at_string HR1.out x13_1 p132 q132
                  cases e132
                  replace p132 := eq_true p132
                  replace q132 := eq_true q132
                  go_wp2
                  repeat (go_quiet (fail); try go_wp2)
                  go_roundg k1
                  case measure => have := HK1.out; omega
                  case rel => exact ⟨(wrap64 (x13_1 + 1)), (by first | rfl | (simp; done) | (simp [*]; done)), H', ⟨by have := HK1.out; omega⟩, by repeat (first | exact Drawn0.refl _ | apply Drawn0.step)⟩
                · rw [if_neg c8] at H
                  have c8b0 : ((rdOf ByteArray.empty l0 x13_1).toList == (rdOf ByteArray.empty l1 x13_1).toList) = false := beq_eq_false_iff_ne.mpr c8
                  have c8b1 : ((rdOf ByteArray.empty l0 x13_1).toList != (rdOf ByteArray.empty l1 x13_1).toList) = true := bne_iff_ne.mpr c8
                  obtain rfl := Option.some.inj H
                  have p131 : 0 ≤ (x13_1 : Int) := of_decide_eq_true (by first | (with_reducible assumption) | assumption)
                  have q131 : x13_1 < (l0.length : Int) := of_decide_eq_true (by first | (with_reducible assumption) | assumption)
                  obtain ⟨ad131, e131, hx131_0⟩ := Kd.at_string HR0.out x13_1 p131 q131
                  cases e131
                  replace p131 := eq_true p131
                  replace q131 := eq_true q131
                  have p132 : 0 ≤ (x13_1 : Int) := of_decide_eq_true (by first | (with_reducible assumption) | assumption)
                  have q132 : x13_1 < (l1.length : Int) := of_decide_eq_true (by first | (with_reducible assumption) | assumption)
                  obtain ⟨ad132, e132, hx132_0⟩ := Kd.at_string HR1.out x13_1 p132 q132
                  cases e132
                  replace p132 := eq_true p132
                  replace q132 := eq_true q132
                  go_wp2
                  repeat (go_quiet (fail); try go_wp2)
                  go_ret
                  exact ⟨by first | rfl | (simp; done) | (simp [*]; done), by repeat (first | exact Drawn0.refl _ | apply Drawn0.step)⟩
              · rw [if_neg c7] at H
                exact absurd H (by simp)
            · rw [if_neg c6] at H
              exact absurd H (by simp)
          · rw [if_neg c5] at H
            exact absurd H (by simp)
        · rw [if_neg c4] at H
          have c4b0 : decide (x13_1 < (l0.length : Int)) = false := decide_eq_false c4
          clear c4
          obtain rfl := Option.some.inj H
          go_wp2
          repeat (go_quiet (fail); try go_wp2)
          go_ret
          exact ⟨by first | rfl | (simp; done) | (simp [*]; done), by repeat (first | exact Drawn0.refl _ | apply Drawn0.step)⟩
  · rw [if_neg c3] at H
    have c3b0 : ((l0.length : Int) == (l1.length : Int)) = false := beq_eq_false_iff_ne.mpr c3
    have c3b1 : ((l0.length : Int) != (l1.length : Int)) = true := bne_iff_ne.mpr c3
    have c3b2 : (l0.length == l1.length) = false := by first | simpa using c3 | (simp at c3 ⊢; omega)
    obtain rfl := Option.some.inj H
    go_enter Tryd.func68, Tryd.ntmps68
    go_wp2
    repeat (go_quiet (fail); try go_wp2)
    go_ret
    exact ⟨by first | rfl | (simp; done) | (simp [*]; done), by repeat (first | exact Drawn0.refl _ | apply Drawn0.step)⟩

/-! ### def_Same: function 49 -/
def def_Same.f (k : Nat) (a0_0 : Int) (a0_1 : ByteArray) (a0_2 : ByteArray) (l0_3 : List ByteArray) (a0_4 : ByteArray) (a0_5 : ByteArray) (a1_0 : Int) (a1_1 : ByteArray) (a1_2 : ByteArray) (l1_3 : List ByteArray) (a1_4 : ByteArray) (a1_5 : ByteArray) : Option (Bool) := if a0_0 = a1_0 then (if a0_1.toList = a1_1.toList then (if a0_2.toList = a1_2.toList then ((slices_Equal_string_string.f k l0_3 l1_3).bind fun t135 => (if t135 = true then (if a0_4.toList = a1_4.toList then (some (a0_5.toList == a1_5.toList)) else (some false)) else (some false))) else (some false)) else (some false)) else (some false)
theorem def_Same.mono : ∀ a0 a1 a2 a3 a4 a5 a6 a7 a8 a9 a10 a11 k, LeO (def_Same.f k a0 a1 a2 a3 a4 a5 a6 a7 a8 a9 a10 a11) (def_Same.f (k + 1) a0 a1 a2 a3 a4 a5 a6 a7 a8 a9 a10 a11) := by
  intro a0 a1 a2 a3 a4 a5 a6 a7 a8 a9 a10 a11 k
  unfold def_Same.f
  repeat' first
      | (with_reducible exact slices_Equal_string_string.mono _ _ _)
      | (with_reducible exact LeO.refl _)
      | (with_reducible exact LeO.none _)
      | (with_reducible refine LeO.ite ?_ ?_)
      | (with_reducible refine LeO.bind ?_ (fun _ => ?_))
      | exact slices_Equal_string_string.mono _ _ _
      | exact LeO.none _
      | refine LeO.ite ?_ ?_
      | refine LeO.bind ?_ (fun _ => ?_)
set_option maxHeartbeats 8000000 in
set_option maxRecDepth 100000 in
theorem def_Same.calls (k : Nat) (a0_0 : Int) (a0_1 : ByteArray) (a0_2 : ByteArray) (A0_3 : Option Addr) (c0_3 : Nat) (l0_3 : List ByteArray) (a0_4 : ByteArray) (a0_5 : ByteArray) (a1_0 : Int) (a1_1 : ByteArray) (a1_2 : ByteArray) (A1_3 : Option Addr) (c1_3 : Nat) (l1_3 : List ByteArray) (a1_4 : ByteArray) (a1_5 : ByteArray) (r : Bool) (w : World) (hr0_3 : Kd.C Kd.string w A0_3 l0_3.length l0_3) (hc0_3 : l0_3.length ≤ c0_3) (hr1_3 : Kd.C Kd.string w A1_3 l1_3.length l1_3) (hc1_3 : l1_3.length ≤ c1_3) (h : def_Same.f k a0_0 a0_1 a0_2 l0_3 a0_4 a0_5 a1_0 a1_1 a1_2 l1_3 a1_4 a1_5 = some r) :
    Calls Tryd.prog 49 #[.agg #[.int .i64 a0_0, .string a0_1, .string a0_2, .slice A0_3 l0_3.length c0_3, .string a0_4, .string a0_5], .agg #[.int .i64 a1_0, .string a1_1, .string a1_2, .slice A1_3 l1_3.length c1_3, .string a1_4, .string a1_5]] w fun e w' => e = .returned (.bool r) ∧ Below w.heap.size w w' := by
  have hu31 := Tryd.underlying31
  have HR0_3 := Aside0.mk hr0_3
  have HC0_3 := Aside0.mk hc0_3
  clear hr0_3 hc0_3
  have HR1_3 := Aside0.mk hr1_3
  have HC1_3 := Aside0.mk hc1_3
  clear hr1_3 hc1_3
  have HB := Aside0.mk (Below.refl w.heap.size w)
  have H : (if a0_0 = a1_0 then (if a0_1.toList = a1_1.toList then (if a0_2.toList = a1_2.toList then ((slices_Equal_string_string.f k l0_3 l1_3).bind fun t135 => (if t135 = true then (if a0_4.toList = a1_4.toList then (some (a0_5.toList == a1_5.toList)) else (some false)) else (some false))) else (some false)) else (some false)) else (some false)) = some r := h
  clear h
  by_cases c3 : a0_0 = a1_0
  · rw [if_pos c3] at H
    have c3b0 : (a0_0 == a1_0) = true := beq_iff_eq.mpr c3
    have c3b1 : (a0_0 != a1_0) = false := bne_eq_false_iff_eq.mpr c3
    clear c3
    by_cases c4 : a0_1.toList = a1_1.toList
    · rw [if_pos c4] at H
      have c4b0 : (a0_1.toList == a1_1.toList) = true := beq_iff_eq.mpr c4
      have c4b1 : (a0_1.toList != a1_1.toList) = false := bne_eq_false_iff_eq.mpr c4
      clear c4
      by_cases c5 : a0_2.toList = a1_2.toList
      · rw [if_pos c5] at H
        have c5b0 : (a0_2.toList == a1_2.toList) = true := beq_iff_eq.mpr c5
        have c5b1 : (a0_2.toList != a1_2.toList) = false := bne_eq_false_iff_eq.mpr c5
        clear c5
        replace H := Option.bind_eq_some_iff.mp H
        obtain ⟨t135, A60, H⟩ := H
        replace H : (if t135 = true then (if a0_4.toList = a1_4.toList then (some (a0_5.toList == a1_5.toList)) else (some false)) else (some false)) = some r := H
        have A6 := Aside0.mk A60
        clear A60
        by_cases c7 : t135 = true
        · subst c7
          have H1 : (if a0_4.toList = a1_4.toList then (some (a0_5.toList == a1_5.toList)) else (some false)) = some r := by rw [if_pos rfl] at H; exact H
          clear H
          have H := H1
          clear H1
          by_cases c8 : a0_4.toList = a1_4.toList
          · rw [if_pos c8] at H
            have c8b0 : (a0_4.toList == a1_4.toList) = true := beq_iff_eq.mpr c8
            have c8b1 : (a0_4.toList != a1_4.toList) = false := bne_eq_false_iff_eq.mpr c8
            clear c8
            obtain rfl := Option.some.inj H
            go_enter Tryd.func49, Tryd.ntmps49
            go_wp2_with (first | ((with_reducible refine gate_dst (N := 2) rfl ?_); refine box_event ?hg (N := 2) ?hd (cs := #[.int .i64 a0_0, .string a0_1, .string a0_2, .slice A0_3 l0_3.length c0_3, .string a0_4, .string a0_5]) (t := 31) ?hr ?_; (case hd => rfl); (case hg => rfl); (case hr => first | (go_simp; done) | (go_simp; rfl)); intro gb133 hg w9 hbox hb; have n0_ := Aside0.mk (below_step (by repeat (first | (with_reducible first | exact HB.out | apply below_alloc | apply pw_below_drewN | apply below_drew1) | exact HB.out)) hb); have n1_ := Aside0.mk (hbox); have n2_ := Aside0.mk ((by rw [hg]; exact (below_size (by repeat (first | (with_reducible first | exact HB.out | apply below_alloc | apply pw_below_drewN | apply below_drew1) | exact HB.out))) : w.heap.size ≤ gb133)); have n3_ := Aside0.mk ((by rw [hg]; exact (below_size (by repeat (first | (with_reducible first | exact HB.out | apply below_alloc | apply pw_below_drewN | apply below_drew1) | exact HB.out))) : w.heap.size ≤ gb133)); clear HB; have HB := n0_; have BK133 := n1_; have GW133 := n2_; have GE133 := n3_; clear n0_ n1_ n2_ n3_; clear hb hbox hg) | ((with_reducible refine gate_dst (N := 3) rfl ?_); refine box_event ?hg (N := 3) ?hd (cs := #[.int .i64 a1_0, .string a1_1, .string a1_2, .slice A1_3 l1_3.length c1_3, .string a1_4, .string a1_5]) (t := 31) ?hr ?_; (case hd => rfl); (case hg => rfl); (case hr => first | (go_simp; done) | (go_simp; rfl)); intro gb134 hg w10 hbox hb; have n0_ := Aside0.mk (blk_below (g := gb133) (o := .cells #[.int .i64 a0_0, .string a0_1, .string a0_2, .slice A0_3 l0_3.length c0_3, .string a0_4, .string a0_5] 31 (0, 0)) (by (with_reducible repeat (first | refine blk_drewN ?_ _ | refine blk_drew ?_ | refine blk_alloc ?_ _)); exact BK133.out) hb); have n1_ := Aside0.mk (below_step (by repeat (first | (with_reducible first | exact HB.out | apply below_alloc | apply pw_below_drewN | apply below_drew1 | refine below_set ?_ GE133.out) | exact HB.out)) hb); have n2_ := Aside0.mk (hbox); have n3_ := Aside0.mk ((by rw [hg]; exact (below_size (by repeat (first | (with_reducible first | exact HB.out | apply below_alloc | apply pw_below_drewN | apply below_drew1 | refine below_set ?_ GE133.out) | exact HB.out))) : w.heap.size ≤ gb134)); have n4_ := Aside0.mk ((by rw [hg]; exact (below_size (by repeat (first | (with_reducible first | exact HB.out | apply below_alloc | apply pw_below_drewN | apply below_drew1 | refine below_set ?_ GE133.out) | exact HB.out))) : w.heap.size ≤ gb134)); have n5_ := Aside0.mk ((by rw [hg]; exact Nat.ne_of_lt (blk_lt (g := gb133) (o := .cells #[.int .i64 a0_0, .string a0_1, .string a0_2, .slice A0_3 l0_3.length c0_3, .string a0_4, .string a0_5] 31 (0, 0)) (by (with_reducible repeat (first | refine blk_drewN ?_ _ | refine blk_drew ?_ | refine blk_alloc ?_ _)); exact BK133.out)) : gb133 ≠ gb134)); have n6_ := Aside0.mk ((by rw [hg]; exact Nat.ne_of_gt (blk_lt (g := gb133) (o := .cells #[.int .i64 a0_0, .string a0_1, .string a0_2, .slice A0_3 l0_3.length c0_3, .string a0_4, .string a0_5] 31 (0, 0)) (by (with_reducible repeat (first | refine blk_drewN ?_ _ | refine blk_drew ?_ | refine blk_alloc ?_ _)); exact BK133.out)) : gb134 ≠ gb133)); clear BK133; clear HB; have BK133 := n0_; have HB := n1_; have BK134 := n2_; have GW134 := n3_; have GE134 := n4_; have NB133_134 := n5_; have NB134_133 := n6_; clear n0_ n1_ n2_ n3_ n4_ n5_ n6_; clear hb hbox hg; have hnb11 := NB133_134.out; have hnc11 := NB134_133.out; have hcz12_0 : w10.cell? ⟨gb133, 0, none⟩ = some (.int .i64 a0_0) := (blk_cell BK133.out 0).trans rfl; have hcz12_1 : w10.cell? ⟨gb133, 1, none⟩ = some (.string a0_1) := (blk_cell BK133.out 1).trans rfl; have hcz12_2 : w10.cell? ⟨gb133, 2, none⟩ = some (.string a0_2) := (blk_cell BK133.out 2).trans rfl; have hcz12_3 : w10.cell? ⟨gb133, 3, none⟩ = some (.slice A0_3 l0_3.length c0_3) := (blk_cell BK133.out 3).trans rfl; have hcz12_4 : w10.cell? ⟨gb133, 4, none⟩ = some (.string a0_4) := (blk_cell BK133.out 4).trans rfl; have hcz12_5 : w10.cell? ⟨gb133, 5, none⟩ = some (.string a0_5) := (blk_cell BK133.out 5).trans rfl; have hfz12_0 := blk_frozen BK133.out 0; have hfz12_1 := blk_frozen BK133.out 1; have hfz12_2 := blk_frozen BK133.out 2; have hfz12_3 := blk_frozen BK133.out 3; have hfz12_4 := blk_frozen BK133.out 4; have hfz12_5 := blk_frozen BK133.out 5; have hcz13_0 : w10.cell? ⟨gb134, 0, none⟩ = some (.int .i64 a1_0) := (blk_cell BK134.out 0).trans rfl; have hcz13_1 : w10.cell? ⟨gb134, 1, none⟩ = some (.string a1_1) := (blk_cell BK134.out 1).trans rfl; have hcz13_2 : w10.cell? ⟨gb134, 2, none⟩ = some (.string a1_2) := (blk_cell BK134.out 2).trans rfl; have hcz13_3 : w10.cell? ⟨gb134, 3, none⟩ = some (.slice A1_3 l1_3.length c1_3) := (blk_cell BK134.out 3).trans rfl; have hcz13_4 : w10.cell? ⟨gb134, 4, none⟩ = some (.string a1_4) := (blk_cell BK134.out 4).trans rfl; have hcz13_5 : w10.cell? ⟨gb134, 5, none⟩ = some (.string a1_5) := (blk_cell BK134.out 5).trans rfl; have hfz13_0 := blk_frozen BK134.out 0; have hfz13_1 := blk_frozen BK134.out 1; have hfz13_2 := blk_frozen BK134.out 2; have hfz13_3 := blk_frozen BK134.out 3; have hfz13_4 := blk_frozen BK134.out 4; have hfz13_5 := blk_frozen BK134.out 5) | (go_at_call 68; (with_reducible refine (slices_Equal_string_string.calls k _ _ l0_3 _ _ l1_3 true _ ?side1 ?side2 ?side3 ?side4 A6.out).mono ?_); (case side1 => repeat (first | exact (Kd.C_below HR0_3.out HB.out) | (with_reducible refine Kd.C_alloc ?_ _) | (with_reducible refine Kd.C_drewN ?_ _) | (with_reducible refine Kd.C_drew ?_))); (case side2 => exact HC0_3.out); (case side3 => repeat (first | exact (Kd.C_below HR1_3.out HB.out) | (with_reducible refine Kd.C_alloc ?_ _) | (with_reducible refine Kd.C_drewN ?_ _) | (with_reducible refine Kd.C_drew ?_))); (case side4 => exact HC1_3.out); rintro e w' ⟨rfl, ⟨nd, rfl⟩⟩))
            go_ret
            exact ⟨by first | rfl | (simp [errW_none, errW_some] <;> rfl) | (simp [*, errW_none, errW_some] <;> rfl), by repeat (first | (with_reducible first | exact HB.out | apply below_alloc | apply pw_below_drewN | apply below_drew1 | refine below_set ?_ GE133.out | refine below_set ?_ GE134.out) | exact HB.out)⟩
          · rw [if_neg c8] at H
            have c8b0 : (a0_4.toList == a1_4.toList) = false := beq_eq_false_iff_ne.mpr c8
            have c8b1 : (a0_4.toList != a1_4.toList) = true := bne_iff_ne.mpr c8
            obtain rfl := Option.some.inj H
            go_enter Tryd.func49, Tryd.ntmps49
            go_wp2_with (first | ((with_reducible refine gate_dst (N := 2) rfl ?_); refine box_event ?hg (N := 2) ?hd (cs := #[.int .i64 a0_0, .string a0_1, .string a0_2, .slice A0_3 l0_3.length c0_3, .string a0_4, .string a0_5]) (t := 31) ?hr ?_; (case hd => rfl); (case hg => rfl); (case hr => first | (go_simp; done) | (go_simp; rfl)); intro gb133 hg w14 hbox hb; have n0_ := Aside0.mk (below_step (by repeat (first | (with_reducible first | exact HB.out | apply below_alloc | apply pw_below_drewN | apply below_drew1) | exact HB.out)) hb); have n1_ := Aside0.mk (hbox); have n2_ := Aside0.mk ((by rw [hg]; exact (below_size (by repeat (first | (with_reducible first | exact HB.out | apply below_alloc | apply pw_below_drewN | apply below_drew1) | exact HB.out))) : w.heap.size ≤ gb133)); have n3_ := Aside0.mk ((by rw [hg]; exact (below_size (by repeat (first | (with_reducible first | exact HB.out | apply below_alloc | apply pw_below_drewN | apply below_drew1) | exact HB.out))) : w.heap.size ≤ gb133)); clear HB; have HB := n0_; have BK133 := n1_; have GW133 := n2_; have GE133 := n3_; clear n0_ n1_ n2_ n3_; clear hb hbox hg) | ((with_reducible refine gate_dst (N := 3) rfl ?_); refine box_event ?hg (N := 3) ?hd (cs := #[.int .i64 a1_0, .string a1_1, .string a1_2, .slice A1_3 l1_3.length c1_3, .string a1_4, .string a1_5]) (t := 31) ?hr ?_; (case hd => rfl); (case hg => rfl); (case hr => first | (go_simp; done) | (go_simp; rfl)); intro gb134 hg w15 hbox hb; have n0_ := Aside0.mk (blk_below (g := gb133) (o := .cells #[.int .i64 a0_0, .string a0_1, .string a0_2, .slice A0_3 l0_3.length c0_3, .string a0_4, .string a0_5] 31 (0, 0)) (by (with_reducible repeat (first | refine blk_drewN ?_ _ | refine blk_drew ?_ | refine blk_alloc ?_ _)); exact BK133.out) hb); have n1_ := Aside0.mk (below_step (by repeat (first | (with_reducible first | exact HB.out | apply below_alloc | apply pw_below_drewN | apply below_drew1 | refine below_set ?_ GE133.out) | exact HB.out)) hb); have n2_ := Aside0.mk (hbox); have n3_ := Aside0.mk ((by rw [hg]; exact (below_size (by repeat (first | (with_reducible first | exact HB.out | apply below_alloc | apply pw_below_drewN | apply below_drew1 | refine below_set ?_ GE133.out) | exact HB.out))) : w.heap.size ≤ gb134)); have n4_ := Aside0.mk ((by rw [hg]; exact (below_size (by repeat (first | (with_reducible first | exact HB.out | apply below_alloc | apply pw_below_drewN | apply below_drew1 | refine below_set ?_ GE133.out) | exact HB.out))) : w.heap.size ≤ gb134)); have n5_ := Aside0.mk ((by rw [hg]; exact Nat.ne_of_lt (blk_lt (g := gb133) (o := .cells #[.int .i64 a0_0, .string a0_1, .string a0_2, .slice A0_3 l0_3.length c0_3, .string a0_4, .string a0_5] 31 (0, 0)) (by (with_reducible repeat (first | refine blk_drewN ?_ _ | refine blk_drew ?_ | refine blk_alloc ?_ _)); exact BK133.out)) : gb133 ≠ gb134)); have n6_ := Aside0.mk ((by rw [hg]; exact Nat.ne_of_gt (blk_lt (g := gb133) (o := .cells #[.int .i64 a0_0, .string a0_1, .string a0_2, .slice A0_3 l0_3.length c0_3, .string a0_4, .string a0_5] 31 (0, 0)) (by (with_reducible repeat (first | refine blk_drewN ?_ _ | refine blk_drew ?_ | refine blk_alloc ?_ _)); exact BK133.out)) : gb134 ≠ gb133)); clear BK133; clear HB; have BK133 := n0_; have HB := n1_; have BK134 := n2_; have GW134 := n3_; have GE134 := n4_; have NB133_134 := n5_; have NB134_133 := n6_; clear n0_ n1_ n2_ n3_ n4_ n5_ n6_; clear hb hbox hg; have hnb16 := NB133_134.out; have hnc16 := NB134_133.out; have hcz17_0 : w15.cell? ⟨gb133, 0, none⟩ = some (.int .i64 a0_0) := (blk_cell BK133.out 0).trans rfl; have hcz17_1 : w15.cell? ⟨gb133, 1, none⟩ = some (.string a0_1) := (blk_cell BK133.out 1).trans rfl; have hcz17_2 : w15.cell? ⟨gb133, 2, none⟩ = some (.string a0_2) := (blk_cell BK133.out 2).trans rfl; have hcz17_3 : w15.cell? ⟨gb133, 3, none⟩ = some (.slice A0_3 l0_3.length c0_3) := (blk_cell BK133.out 3).trans rfl; have hcz17_4 : w15.cell? ⟨gb133, 4, none⟩ = some (.string a0_4) := (blk_cell BK133.out 4).trans rfl; have hcz17_5 : w15.cell? ⟨gb133, 5, none⟩ = some (.string a0_5) := (blk_cell BK133.out 5).trans rfl; have hfz17_0 := blk_frozen BK133.out 0; have hfz17_1 := blk_frozen BK133.out 1; have hfz17_2 := blk_frozen BK133.out 2; have hfz17_3 := blk_frozen BK133.out 3; have hfz17_4 := blk_frozen BK133.out 4; have hfz17_5 := blk_frozen BK133.out 5; have hcz18_0 : w15.cell? ⟨gb134, 0, none⟩ = some (.int .i64 a1_0) := (blk_cell BK134.out 0).trans rfl; have hcz18_1 : w15.cell? ⟨gb134, 1, none⟩ = some (.string a1_1) := (blk_cell BK134.out 1).trans rfl; have hcz18_2 : w15.cell? ⟨gb134, 2, none⟩ = some (.string a1_2) := (blk_cell BK134.out 2).trans rfl; have hcz18_3 : w15.cell? ⟨gb134, 3, none⟩ = some (.slice A1_3 l1_3.length c1_3) := (blk_cell BK134.out 3).trans rfl; have hcz18_4 : w15.cell? ⟨gb134, 4, none⟩ = some (.string a1_4) := (blk_cell BK134.out 4).trans rfl; have hcz18_5 : w15.cell? ⟨gb134, 5, none⟩ = some (.string a1_5) := (blk_cell BK134.out 5).trans rfl; have hfz18_0 := blk_frozen BK134.out 0; have hfz18_1 := blk_frozen BK134.out 1; have hfz18_2 := blk_frozen BK134.out 2; have hfz18_3 := blk_frozen BK134.out 3; have hfz18_4 := blk_frozen BK134.out 4; have hfz18_5 := blk_frozen BK134.out 5) | (go_at_call 68; (with_reducible refine (slices_Equal_string_string.calls k _ _ l0_3 _ _ l1_3 true _ ?side1 ?side2 ?side3 ?side4 A6.out).mono ?_); (case side1 => repeat (first | exact (Kd.C_below HR0_3.out HB.out) | (with_reducible refine Kd.C_alloc ?_ _) | (with_reducible refine Kd.C_drewN ?_ _) | (with_reducible refine Kd.C_drew ?_))); (case side2 => exact HC0_3.out); (case side3 => repeat (first | exact (Kd.C_below HR1_3.out HB.out) | (with_reducible refine Kd.C_alloc ?_ _) | (with_reducible refine Kd.C_drewN ?_ _) | (with_reducible refine Kd.C_drew ?_))); (case side4 => exact HC1_3.out); rintro e w' ⟨rfl, ⟨nd, rfl⟩⟩))
            go_ret
            exact ⟨by first | rfl | (simp [errW_none, errW_some] <;> rfl) | (simp [*, errW_none, errW_some] <;> rfl), by repeat (first | (with_reducible first | exact HB.out | apply below_alloc | apply pw_below_drewN | apply below_drew1 | refine below_set ?_ GE133.out | refine below_set ?_ GE134.out) | exact HB.out)⟩
        · replace c7 := Bool.eq_false_iff.mpr c7
          subst c7
          have H1 : (some false) = some r := by rw [if_neg (show ¬ (false = true) by decide)] at H; exact H
          clear H
          have H := H1
          clear H1
          obtain rfl := Option.some.inj H
          go_enter Tryd.func49, Tryd.ntmps49
          go_wp2_with (first | ((with_reducible refine gate_dst (N := 2) rfl ?_); refine box_event ?hg (N := 2) ?hd (cs := #[.int .i64 a0_0, .string a0_1, .string a0_2, .slice A0_3 l0_3.length c0_3, .string a0_4, .string a0_5]) (t := 31) ?hr ?_; (case hd => rfl); (case hg => rfl); (case hr => first | (go_simp; done) | (go_simp; rfl)); intro gb133 hg w19 hbox hb; have n0_ := Aside0.mk (below_step (by repeat (first | (with_reducible first | exact HB.out | apply below_alloc | apply pw_below_drewN | apply below_drew1) | exact HB.out)) hb); have n1_ := Aside0.mk (hbox); have n2_ := Aside0.mk ((by rw [hg]; exact (below_size (by repeat (first | (with_reducible first | exact HB.out | apply below_alloc | apply pw_below_drewN | apply below_drew1) | exact HB.out))) : w.heap.size ≤ gb133)); have n3_ := Aside0.mk ((by rw [hg]; exact (below_size (by repeat (first | (with_reducible first | exact HB.out | apply below_alloc | apply pw_below_drewN | apply below_drew1) | exact HB.out))) : w.heap.size ≤ gb133)); clear HB; have HB := n0_; have BK133 := n1_; have GW133 := n2_; have GE133 := n3_; clear n0_ n1_ n2_ n3_; clear hb hbox hg) | ((with_reducible refine gate_dst (N := 3) rfl ?_); refine box_event ?hg (N := 3) ?hd (cs := #[.int .i64 a1_0, .string a1_1, .string a1_2, .slice A1_3 l1_3.length c1_3, .string a1_4, .string a1_5]) (t := 31) ?hr ?_; (case hd => rfl); (case hg => rfl); (case hr => first | (go_simp; done) | (go_simp; rfl)); intro gb134 hg w20 hbox hb; have n0_ := Aside0.mk (blk_below (g := gb133) (o := .cells #[.int .i64 a0_0, .string a0_1, .string a0_2, .slice A0_3 l0_3.length c0_3, .string a0_4, .string a0_5] 31 (0, 0)) (by (with_reducible repeat (first | refine blk_drewN ?_ _ | refine blk_drew ?_ | refine blk_alloc ?_ _)); exact BK133.out) hb); have n1_ := Aside0.mk (below_step (by repeat (first | (with_reducible first | exact HB.out | apply below_alloc | apply pw_below_drewN | apply below_drew1 | refine below_set ?_ GE133.out) | exact HB.out)) hb); have n2_ := Aside0.mk (hbox); have n3_ := Aside0.mk ((by rw [hg]; exact (below_size (by repeat (first | (with_reducible first | exact HB.out | apply below_alloc | apply pw_below_drewN | apply below_drew1 | refine below_set ?_ GE133.out) | exact HB.out))) : w.heap.size ≤ gb134)); have n4_ := Aside0.mk ((by rw [hg]; exact (below_size (by repeat (first | (with_reducible first | exact HB.out | apply below_alloc | apply pw_below_drewN | apply below_drew1 | refine below_set ?_ GE133.out) | exact HB.out))) : w.heap.size ≤ gb134)); have n5_ := Aside0.mk ((by rw [hg]; exact Nat.ne_of_lt (blk_lt (g := gb133) (o := .cells #[.int .i64 a0_0, .string a0_1, .string a0_2, .slice A0_3 l0_3.length c0_3, .string a0_4, .string a0_5] 31 (0, 0)) (by (with_reducible repeat (first | refine blk_drewN ?_ _ | refine blk_drew ?_ | refine blk_alloc ?_ _)); exact BK133.out)) : gb133 ≠ gb134)); have n6_ := Aside0.mk ((by rw [hg]; exact Nat.ne_of_gt (blk_lt (g := gb133) (o := .cells #[.int .i64 a0_0, .string a0_1, .string a0_2, .slice A0_3 l0_3.length c0_3, .string a0_4, .string a0_5] 31 (0, 0)) (by (with_reducible repeat (first | refine blk_drewN ?_ _ | refine blk_drew ?_ | refine blk_alloc ?_ _)); exact BK133.out)) : gb134 ≠ gb133)); clear BK133; clear HB; have BK133 := n0_; have HB := n1_; have BK134 := n2_; have GW134 := n3_; have GE134 := n4_; have NB133_134 := n5_; have NB134_133 := n6_; clear n0_ n1_ n2_ n3_ n4_ n5_ n6_; clear hb hbox hg; have hnb21 := NB133_134.out; have hnc21 := NB134_133.out; have hcz22_0 : w20.cell? ⟨gb133, 0, none⟩ = some (.int .i64 a0_0) := (blk_cell BK133.out 0).trans rfl; have hcz22_1 : w20.cell? ⟨gb133, 1, none⟩ = some (.string a0_1) := (blk_cell BK133.out 1).trans rfl; have hcz22_2 : w20.cell? ⟨gb133, 2, none⟩ = some (.string a0_2) := (blk_cell BK133.out 2).trans rfl; have hcz22_3 : w20.cell? ⟨gb133, 3, none⟩ = some (.slice A0_3 l0_3.length c0_3) := (blk_cell BK133.out 3).trans rfl; have hcz22_4 : w20.cell? ⟨gb133, 4, none⟩ = some (.string a0_4) := (blk_cell BK133.out 4).trans rfl; have hcz22_5 : w20.cell? ⟨gb133, 5, none⟩ = some (.string a0_5) := (blk_cell BK133.out 5).trans rfl; have hfz22_0 := blk_frozen BK133.out 0; have hfz22_1 := blk_frozen BK133.out 1; have hfz22_2 := blk_frozen BK133.out 2; have hfz22_3 := blk_frozen BK133.out 3; have hfz22_4 := blk_frozen BK133.out 4; have hfz22_5 := blk_frozen BK133.out 5; have hcz23_0 : w20.cell? ⟨gb134, 0, none⟩ = some (.int .i64 a1_0) := (blk_cell BK134.out 0).trans rfl; have hcz23_1 : w20.cell? ⟨gb134, 1, none⟩ = some (.string a1_1) := (blk_cell BK134.out 1).trans rfl; have hcz23_2 : w20.cell? ⟨gb134, 2, none⟩ = some (.string a1_2) := (blk_cell BK134.out 2).trans rfl; have hcz23_3 : w20.cell? ⟨gb134, 3, none⟩ = some (.slice A1_3 l1_3.length c1_3) := (blk_cell BK134.out 3).trans rfl; have hcz23_4 : w20.cell? ⟨gb134, 4, none⟩ = some (.string a1_4) := (blk_cell BK134.out 4).trans rfl; have hcz23_5 : w20.cell? ⟨gb134, 5, none⟩ = some (.string a1_5) := (blk_cell BK134.out 5).trans rfl; have hfz23_0 := blk_frozen BK134.out 0; have hfz23_1 := blk_frozen BK134.out 1; have hfz23_2 := blk_frozen BK134.out 2; have hfz23_3 := blk_frozen BK134.out 3; have hfz23_4 := blk_frozen BK134.out 4; have hfz23_5 := blk_frozen BK134.out 5) | (go_at_call 68; (with_reducible refine (slices_Equal_string_string.calls k _ _ l0_3 _ _ l1_3 false _ ?side1 ?side2 ?side3 ?side4 A6.out).mono ?_); (case side1 => repeat (first | exact (Kd.C_below HR0_3.out HB.out) | (with_reducible refine Kd.C_alloc ?_ _) | (with_reducible refine Kd.C_drewN ?_ _) | (with_reducible refine Kd.C_drew ?_))); (case side2 => exact HC0_3.out); (case side3 => repeat (first | exact (Kd.C_below HR1_3.out HB.out) | (with_reducible refine Kd.C_alloc ?_ _) | (with_reducible refine Kd.C_drewN ?_ _) | (with_reducible refine Kd.C_drew ?_))); (case side4 => exact HC1_3.out); rintro e w' ⟨rfl, ⟨nd, rfl⟩⟩))
          go_ret
          exact ⟨by first | rfl | (simp [errW_none, errW_some] <;> rfl) | (simp [*, errW_none, errW_some] <;> rfl), by repeat (first | (with_reducible first | exact HB.out | apply below_alloc | apply pw_below_drewN | apply below_drew1 | refine below_set ?_ GE133.out | refine below_set ?_ GE134.out) | exact HB.out)⟩
      · rw [if_neg c5] at H
        have c5b0 : (a0_2.toList == a1_2.toList) = false := beq_eq_false_iff_ne.mpr c5
        have c5b1 : (a0_2.toList != a1_2.toList) = true := bne_iff_ne.mpr c5
        obtain rfl := Option.some.inj H
        go_enter Tryd.func49, Tryd.ntmps49
        go_wp2_with (first | ((with_reducible refine gate_dst (N := 2) rfl ?_); refine box_event ?hg (N := 2) ?hd (cs := #[.int .i64 a0_0, .string a0_1, .string a0_2, .slice A0_3 l0_3.length c0_3, .string a0_4, .string a0_5]) (t := 31) ?hr ?_; (case hd => rfl); (case hg => rfl); (case hr => first | (go_simp; done) | (go_simp; rfl)); intro gb133 hg w24 hbox hb; have n0_ := Aside0.mk (below_step (by repeat (first | (with_reducible first | exact HB.out | apply below_alloc | apply pw_below_drewN | apply below_drew1) | exact HB.out)) hb); have n1_ := Aside0.mk (hbox); have n2_ := Aside0.mk ((by rw [hg]; exact (below_size (by repeat (first | (with_reducible first | exact HB.out | apply below_alloc | apply pw_below_drewN | apply below_drew1) | exact HB.out))) : w.heap.size ≤ gb133)); have n3_ := Aside0.mk ((by rw [hg]; exact (below_size (by repeat (first | (with_reducible first | exact HB.out | apply below_alloc | apply pw_below_drewN | apply below_drew1) | exact HB.out))) : w.heap.size ≤ gb133)); clear HB; have HB := n0_; have BK133 := n1_; have GW133 := n2_; have GE133 := n3_; clear n0_ n1_ n2_ n3_; clear hb hbox hg) | ((with_reducible refine gate_dst (N := 3) rfl ?_); refine box_event ?hg (N := 3) ?hd (cs := #[.int .i64 a1_0, .string a1_1, .string a1_2, .slice A1_3 l1_3.length c1_3, .string a1_4, .string a1_5]) (t := 31) ?hr ?_; (case hd => rfl); (case hg => rfl); (case hr => first | (go_simp; done) | (go_simp; rfl)); intro gb134 hg w25 hbox hb; have n0_ := Aside0.mk (blk_below (g := gb133) (o := .cells #[.int .i64 a0_0, .string a0_1, .string a0_2, .slice A0_3 l0_3.length c0_3, .string a0_4, .string a0_5] 31 (0, 0)) (by (with_reducible repeat (first | refine blk_drewN ?_ _ | refine blk_drew ?_ | refine blk_alloc ?_ _)); exact BK133.out) hb); have n1_ := Aside0.mk (below_step (by repeat (first | (with_reducible first | exact HB.out | apply below_alloc | apply pw_below_drewN | apply below_drew1 | refine below_set ?_ GE133.out) | exact HB.out)) hb); have n2_ := Aside0.mk (hbox); have n3_ := Aside0.mk ((by rw [hg]; exact (below_size (by repeat (first | (with_reducible first | exact HB.out | apply below_alloc | apply pw_below_drewN | apply below_drew1 | refine below_set ?_ GE133.out) | exact HB.out))) : w.heap.size ≤ gb134)); have n4_ := Aside0.mk ((by rw [hg]; exact (below_size (by repeat (first | (with_reducible first | exact HB.out | apply below_alloc | apply pw_below_drewN | apply below_drew1 | refine below_set ?_ GE133.out) | exact HB.out))) : w.heap.size ≤ gb134)); have n5_ := Aside0.mk ((by rw [hg]; exact Nat.ne_of_lt (blk_lt (g := gb133) (o := .cells #[.int .i64 a0_0, .string a0_1, .string a0_2, .slice A0_3 l0_3.length c0_3, .string a0_4, .string a0_5] 31 (0, 0)) (by (with_reducible repeat (first | refine blk_drewN ?_ _ | refine blk_drew ?_ | refine blk_alloc ?_ _)); exact BK133.out)) : gb133 ≠ gb134)); have n6_ := Aside0.mk ((by rw [hg]; exact Nat.ne_of_gt (blk_lt (g := gb133) (o := .cells #[.int .i64 a0_0, .string a0_1, .string a0_2, .slice A0_3 l0_3.length c0_3, .string a0_4, .string a0_5] 31 (0, 0)) (by (with_reducible repeat (first | refine blk_drewN ?_ _ | refine blk_drew ?_ | refine blk_alloc ?_ _)); exact BK133.out)) : gb134 ≠ gb133)); clear BK133; clear HB; have BK133 := n0_; have HB := n1_; have BK134 := n2_; have GW134 := n3_; have GE134 := n4_; have NB133_134 := n5_; have NB134_133 := n6_; clear n0_ n1_ n2_ n3_ n4_ n5_ n6_; clear hb hbox hg; have hnb26 := NB133_134.out; have hnc26 := NB134_133.out; have hcz27_0 : w25.cell? ⟨gb133, 0, none⟩ = some (.int .i64 a0_0) := (blk_cell BK133.out 0).trans rfl; have hcz27_1 : w25.cell? ⟨gb133, 1, none⟩ = some (.string a0_1) := (blk_cell BK133.out 1).trans rfl; have hcz27_2 : w25.cell? ⟨gb133, 2, none⟩ = some (.string a0_2) := (blk_cell BK133.out 2).trans rfl; have hcz27_3 : w25.cell? ⟨gb133, 3, none⟩ = some (.slice A0_3 l0_3.length c0_3) := (blk_cell BK133.out 3).trans rfl; have hcz27_4 : w25.cell? ⟨gb133, 4, none⟩ = some (.string a0_4) := (blk_cell BK133.out 4).trans rfl; have hcz27_5 : w25.cell? ⟨gb133, 5, none⟩ = some (.string a0_5) := (blk_cell BK133.out 5).trans rfl; have hfz27_0 := blk_frozen BK133.out 0; have hfz27_1 := blk_frozen BK133.out 1; have hfz27_2 := blk_frozen BK133.out 2; have hfz27_3 := blk_frozen BK133.out 3; have hfz27_4 := blk_frozen BK133.out 4; have hfz27_5 := blk_frozen BK133.out 5; have hcz28_0 : w25.cell? ⟨gb134, 0, none⟩ = some (.int .i64 a1_0) := (blk_cell BK134.out 0).trans rfl; have hcz28_1 : w25.cell? ⟨gb134, 1, none⟩ = some (.string a1_1) := (blk_cell BK134.out 1).trans rfl; have hcz28_2 : w25.cell? ⟨gb134, 2, none⟩ = some (.string a1_2) := (blk_cell BK134.out 2).trans rfl; have hcz28_3 : w25.cell? ⟨gb134, 3, none⟩ = some (.slice A1_3 l1_3.length c1_3) := (blk_cell BK134.out 3).trans rfl; have hcz28_4 : w25.cell? ⟨gb134, 4, none⟩ = some (.string a1_4) := (blk_cell BK134.out 4).trans rfl; have hcz28_5 : w25.cell? ⟨gb134, 5, none⟩ = some (.string a1_5) := (blk_cell BK134.out 5).trans rfl; have hfz28_0 := blk_frozen BK134.out 0; have hfz28_1 := blk_frozen BK134.out 1; have hfz28_2 := blk_frozen BK134.out 2; have hfz28_3 := blk_frozen BK134.out 3; have hfz28_4 := blk_frozen BK134.out 4; have hfz28_5 := blk_frozen BK134.out 5))
        go_ret
        exact ⟨by first | rfl | (simp [errW_none, errW_some] <;> rfl) | (simp [*, errW_none, errW_some] <;> rfl), by repeat (first | (with_reducible first | exact HB.out | apply below_alloc | apply pw_below_drewN | apply below_drew1 | refine below_set ?_ GE133.out | refine below_set ?_ GE134.out) | exact HB.out)⟩
    · rw [if_neg c4] at H
      have c4b0 : (a0_1.toList == a1_1.toList) = false := beq_eq_false_iff_ne.mpr c4
      have c4b1 : (a0_1.toList != a1_1.toList) = true := bne_iff_ne.mpr c4
      obtain rfl := Option.some.inj H
      go_enter Tryd.func49, Tryd.ntmps49
      go_wp2_with (first | ((with_reducible refine gate_dst (N := 2) rfl ?_); refine box_event ?hg (N := 2) ?hd (cs := #[.int .i64 a0_0, .string a0_1, .string a0_2, .slice A0_3 l0_3.length c0_3, .string a0_4, .string a0_5]) (t := 31) ?hr ?_; (case hd => rfl); (case hg => rfl); (case hr => first | (go_simp; done) | (go_simp; rfl)); intro gb133 hg w29 hbox hb; have n0_ := Aside0.mk (below_step (by repeat (first | (with_reducible first | exact HB.out | apply below_alloc | apply pw_below_drewN | apply below_drew1) | exact HB.out)) hb); have n1_ := Aside0.mk (hbox); have n2_ := Aside0.mk ((by rw [hg]; exact (below_size (by repeat (first | (with_reducible first | exact HB.out | apply below_alloc | apply pw_below_drewN | apply below_drew1) | exact HB.out))) : w.heap.size ≤ gb133)); have n3_ := Aside0.mk ((by rw [hg]; exact (below_size (by repeat (first | (with_reducible first | exact HB.out | apply below_alloc | apply pw_below_drewN | apply below_drew1) | exact HB.out))) : w.heap.size ≤ gb133)); clear HB; have HB := n0_; have BK133 := n1_; have GW133 := n2_; have GE133 := n3_; clear n0_ n1_ n2_ n3_; clear hb hbox hg) | ((with_reducible refine gate_dst (N := 3) rfl ?_); refine box_event ?hg (N := 3) ?hd (cs := #[.int .i64 a1_0, .string a1_1, .string a1_2, .slice A1_3 l1_3.length c1_3, .string a1_4, .string a1_5]) (t := 31) ?hr ?_; (case hd => rfl); (case hg => rfl); (case hr => first | (go_simp; done) | (go_simp; rfl)); intro gb134 hg w30 hbox hb; have n0_ := Aside0.mk (blk_below (g := gb133) (o := .cells #[.int .i64 a0_0, .string a0_1, .string a0_2, .slice A0_3 l0_3.length c0_3, .string a0_4, .string a0_5] 31 (0, 0)) (by (with_reducible repeat (first | refine blk_drewN ?_ _ | refine blk_drew ?_ | refine blk_alloc ?_ _)); exact BK133.out) hb); have n1_ := Aside0.mk (below_step (by repeat (first | (with_reducible first | exact HB.out | apply below_alloc | apply pw_below_drewN | apply below_drew1 | refine below_set ?_ GE133.out) | exact HB.out)) hb); have n2_ := Aside0.mk (hbox); have n3_ := Aside0.mk ((by rw [hg]; exact (below_size (by repeat (first | (with_reducible first | exact HB.out | apply below_alloc | apply pw_below_drewN | apply below_drew1 | refine below_set ?_ GE133.out) | exact HB.out))) : w.heap.size ≤ gb134)); have n4_ := Aside0.mk ((by rw [hg]; exact (below_size (by repeat (first | (with_reducible first | exact HB.out | apply below_alloc | apply pw_below_drewN | apply below_drew1 | refine below_set ?_ GE133.out) | exact HB.out))) : w.heap.size ≤ gb134)); have n5_ := Aside0.mk ((by rw [hg]; exact Nat.ne_of_lt (blk_lt (g := gb133) (o := .cells #[.int .i64 a0_0, .string a0_1, .string a0_2, .slice A0_3 l0_3.length c0_3, .string a0_4, .string a0_5] 31 (0, 0)) (by (with_reducible repeat (first | refine blk_drewN ?_ _ | refine blk_drew ?_ | refine blk_alloc ?_ _)); exact BK133.out)) : gb133 ≠ gb134)); have n6_ := Aside0.mk ((by rw [hg]; exact Nat.ne_of_gt (blk_lt (g := gb133) (o := .cells #[.int .i64 a0_0, .string a0_1, .string a0_2, .slice A0_3 l0_3.length c0_3, .string a0_4, .string a0_5] 31 (0, 0)) (by (with_reducible repeat (first | refine blk_drewN ?_ _ | refine blk_drew ?_ | refine blk_alloc ?_ _)); exact BK133.out)) : gb134 ≠ gb133)); clear BK133; clear HB; have BK133 := n0_; have HB := n1_; have BK134 := n2_; have GW134 := n3_; have GE134 := n4_; have NB133_134 := n5_; have NB134_133 := n6_; clear n0_ n1_ n2_ n3_ n4_ n5_ n6_; clear hb hbox hg; have hnb31 := NB133_134.out; have hnc31 := NB134_133.out; have hcz32_0 : w30.cell? ⟨gb133, 0, none⟩ = some (.int .i64 a0_0) := (blk_cell BK133.out 0).trans rfl; have hcz32_1 : w30.cell? ⟨gb133, 1, none⟩ = some (.string a0_1) := (blk_cell BK133.out 1).trans rfl; have hcz32_2 : w30.cell? ⟨gb133, 2, none⟩ = some (.string a0_2) := (blk_cell BK133.out 2).trans rfl; have hcz32_3 : w30.cell? ⟨gb133, 3, none⟩ = some (.slice A0_3 l0_3.length c0_3) := (blk_cell BK133.out 3).trans rfl; have hcz32_4 : w30.cell? ⟨gb133, 4, none⟩ = some (.string a0_4) := (blk_cell BK133.out 4).trans rfl; have hcz32_5 : w30.cell? ⟨gb133, 5, none⟩ = some (.string a0_5) := (blk_cell BK133.out 5).trans rfl; have hfz32_0 := blk_frozen BK133.out 0; have hfz32_1 := blk_frozen BK133.out 1; have hfz32_2 := blk_frozen BK133.out 2; have hfz32_3 := blk_frozen BK133.out 3; have hfz32_4 := blk_frozen BK133.out 4; have hfz32_5 := blk_frozen BK133.out 5; have hcz33_0 : w30.cell? ⟨gb134, 0, none⟩ = some (.int .i64 a1_0) := (blk_cell BK134.out 0).trans rfl; have hcz33_1 : w30.cell? ⟨gb134, 1, none⟩ = some (.string a1_1) := (blk_cell BK134.out 1).trans rfl; have hcz33_2 : w30.cell? ⟨gb134, 2, none⟩ = some (.string a1_2) := (blk_cell BK134.out 2).trans rfl; have hcz33_3 : w30.cell? ⟨gb134, 3, none⟩ = some (.slice A1_3 l1_3.length c1_3) := (blk_cell BK134.out 3).trans rfl; have hcz33_4 : w30.cell? ⟨gb134, 4, none⟩ = some (.string a1_4) := (blk_cell BK134.out 4).trans rfl; have hcz33_5 : w30.cell? ⟨gb134, 5, none⟩ = some (.string a1_5) := (blk_cell BK134.out 5).trans rfl; have hfz33_0 := blk_frozen BK134.out 0; have hfz33_1 := blk_frozen BK134.out 1; have hfz33_2 := blk_frozen BK134.out 2; have hfz33_3 := blk_frozen BK134.out 3; have hfz33_4 := blk_frozen BK134.out 4; have hfz33_5 := blk_frozen BK134.out 5))
      go_ret
      exact ⟨by first | rfl | (simp [errW_none, errW_some] <;> rfl) | (simp [*, errW_none, errW_some] <;> rfl), by repeat (first | (with_reducible first | exact HB.out | apply below_alloc | apply pw_below_drewN | apply below_drew1 | refine below_set ?_ GE133.out | refine below_set ?_ GE134.out) | exact HB.out)⟩
  · rw [if_neg c3] at H
    have c3b0 : (a0_0 == a1_0) = false := beq_eq_false_iff_ne.mpr c3
    have c3b1 : (a0_0 != a1_0) = true := bne_iff_ne.mpr c3
    obtain rfl := Option.some.inj H
    go_enter Tryd.func49, Tryd.ntmps49
    go_wp2_with (first | ((with_reducible refine gate_dst (N := 2) rfl ?_); refine box_event ?hg (N := 2) ?hd (cs := #[.int .i64 a0_0, .string a0_1, .string a0_2, .slice A0_3 l0_3.length c0_3, .string a0_4, .string a0_5]) (t := 31) ?hr ?_; (case hd => rfl); (case hg => rfl); (case hr => first | (go_simp; done) | (go_simp; rfl)); intro gb133 hg w34 hbox hb; have n0_ := Aside0.mk (below_step (by repeat (first | (with_reducible first | exact HB.out | apply below_alloc | apply pw_below_drewN | apply below_drew1) | exact HB.out)) hb); have n1_ := Aside0.mk (hbox); have n2_ := Aside0.mk ((by rw [hg]; exact (below_size (by repeat (first | (with_reducible first | exact HB.out | apply below_alloc | apply pw_below_drewN | apply below_drew1) | exact HB.out))) : w.heap.size ≤ gb133)); have n3_ := Aside0.mk ((by rw [hg]; exact (below_size (by repeat (first | (with_reducible first | exact HB.out | apply below_alloc | apply pw_below_drewN | apply below_drew1) | exact HB.out))) : w.heap.size ≤ gb133)); clear HB; have HB := n0_; have BK133 := n1_; have GW133 := n2_; have GE133 := n3_; clear n0_ n1_ n2_ n3_; clear hb hbox hg) | ((with_reducible refine gate_dst (N := 3) rfl ?_); refine box_event ?hg (N := 3) ?hd (cs := #[.int .i64 a1_0, .string a1_1, .string a1_2, .slice A1_3 l1_3.length c1_3, .string a1_4, .string a1_5]) (t := 31) ?hr ?_; (case hd => rfl); (case hg => rfl); (case hr => first | (go_simp; done) | (go_simp; rfl)); intro gb134 hg w35 hbox hb; have n0_ := Aside0.mk (blk_below (g := gb133) (o := .cells #[.int .i64 a0_0, .string a0_1, .string a0_2, .slice A0_3 l0_3.length c0_3, .string a0_4, .string a0_5] 31 (0, 0)) (by (with_reducible repeat (first | refine blk_drewN ?_ _ | refine blk_drew ?_ | refine blk_alloc ?_ _)); exact BK133.out) hb); have n1_ := Aside0.mk (below_step (by repeat (first | (with_reducible first | exact HB.out | apply below_alloc | apply pw_below_drewN | apply below_drew1 | refine below_set ?_ GE133.out) | exact HB.out)) hb); have n2_ := Aside0.mk (hbox); have n3_ := Aside0.mk ((by rw [hg]; exact (below_size (by repeat (first | (with_reducible first | exact HB.out | apply below_alloc | apply pw_below_drewN | apply below_drew1 | refine below_set ?_ GE133.out) | exact HB.out))) : w.heap.size ≤ gb134)); have n4_ := Aside0.mk ((by rw [hg]; exact (below_size (by repeat (first | (with_reducible first | exact HB.out | apply below_alloc | apply pw_below_drewN | apply below_drew1 | refine below_set ?_ GE133.out) | exact HB.out))) : w.heap.size ≤ gb134)); have n5_ := Aside0.mk ((by rw [hg]; exact Nat.ne_of_lt (blk_lt (g := gb133) (o := .cells #[.int .i64 a0_0, .string a0_1, .string a0_2, .slice A0_3 l0_3.length c0_3, .string a0_4, .string a0_5] 31 (0, 0)) (by (with_reducible repeat (first | refine blk_drewN ?_ _ | refine blk_drew ?_ | refine blk_alloc ?_ _)); exact BK133.out)) : gb133 ≠ gb134)); have n6_ := Aside0.mk ((by rw [hg]; exact Nat.ne_of_gt (blk_lt (g := gb133) (o := .cells #[.int .i64 a0_0, .string a0_1, .string a0_2, .slice A0_3 l0_3.length c0_3, .string a0_4, .string a0_5] 31 (0, 0)) (by (with_reducible repeat (first | refine blk_drewN ?_ _ | refine blk_drew ?_ | refine blk_alloc ?_ _)); exact BK133.out)) : gb134 ≠ gb133)); clear BK133; clear HB; have BK133 := n0_; have HB := n1_; have BK134 := n2_; have GW134 := n3_; have GE134 := n4_; have NB133_134 := n5_; have NB134_133 := n6_; clear n0_ n1_ n2_ n3_ n4_ n5_ n6_; clear hb hbox hg; have hnb36 := NB133_134.out; have hnc36 := NB134_133.out; have hcz37_0 : w35.cell? ⟨gb133, 0, none⟩ = some (.int .i64 a0_0) := (blk_cell BK133.out 0).trans rfl; have hcz37_1 : w35.cell? ⟨gb133, 1, none⟩ = some (.string a0_1) := (blk_cell BK133.out 1).trans rfl; have hcz37_2 : w35.cell? ⟨gb133, 2, none⟩ = some (.string a0_2) := (blk_cell BK133.out 2).trans rfl; have hcz37_3 : w35.cell? ⟨gb133, 3, none⟩ = some (.slice A0_3 l0_3.length c0_3) := (blk_cell BK133.out 3).trans rfl; have hcz37_4 : w35.cell? ⟨gb133, 4, none⟩ = some (.string a0_4) := (blk_cell BK133.out 4).trans rfl; have hcz37_5 : w35.cell? ⟨gb133, 5, none⟩ = some (.string a0_5) := (blk_cell BK133.out 5).trans rfl; have hfz37_0 := blk_frozen BK133.out 0; have hfz37_1 := blk_frozen BK133.out 1; have hfz37_2 := blk_frozen BK133.out 2; have hfz37_3 := blk_frozen BK133.out 3; have hfz37_4 := blk_frozen BK133.out 4; have hfz37_5 := blk_frozen BK133.out 5; have hcz38_0 : w35.cell? ⟨gb134, 0, none⟩ = some (.int .i64 a1_0) := (blk_cell BK134.out 0).trans rfl; have hcz38_1 : w35.cell? ⟨gb134, 1, none⟩ = some (.string a1_1) := (blk_cell BK134.out 1).trans rfl; have hcz38_2 : w35.cell? ⟨gb134, 2, none⟩ = some (.string a1_2) := (blk_cell BK134.out 2).trans rfl; have hcz38_3 : w35.cell? ⟨gb134, 3, none⟩ = some (.slice A1_3 l1_3.length c1_3) := (blk_cell BK134.out 3).trans rfl; have hcz38_4 : w35.cell? ⟨gb134, 4, none⟩ = some (.string a1_4) := (blk_cell BK134.out 4).trans rfl; have hcz38_5 : w35.cell? ⟨gb134, 5, none⟩ = some (.string a1_5) := (blk_cell BK134.out 5).trans rfl; have hfz38_0 := blk_frozen BK134.out 0; have hfz38_1 := blk_frozen BK134.out 1; have hfz38_2 := blk_frozen BK134.out 2; have hfz38_3 := blk_frozen BK134.out 3; have hfz38_4 := blk_frozen BK134.out 4; have hfz38_5 := blk_frozen BK134.out 5))
    go_ret
    exact ⟨by first | rfl | (simp [errW_none, errW_some] <;> rfl) | (simp [*, errW_none, errW_some] <;> rfl), by repeat (first | (with_reducible first | exact HB.out | apply below_alloc | apply pw_below_drewN | apply below_drew1 | refine below_set ?_ GE133.out | refine below_set ?_ GE134.out) | exact HB.out)⟩

/-! ### monticulelaw07_awake: function 6 -/
def monticulelaw07_awake.f (k : Nat)  : Option (Bool) := (def_Key.f k 2 (⟨#[83, 116, 97, 99, 107]⟩ : ByteArray) (⟨#[]⟩ : ByteArray) ([] : List ByteArray) (⟨#[115, 105, 122, 101]⟩ : ByteArray) (⟨#[115, 105, 122, 101]⟩ : ByteArray)).bind fun t136 => (some (t136.toList == ([83, 116, 97, 99, 107, 62, 62, 115, 105, 122, 101] : List UInt8)))
theorem monticulelaw07_awake.mono : ∀ k, LeO (monticulelaw07_awake.f k ) (monticulelaw07_awake.f (k + 1) ) := by
  intro  k
  unfold monticulelaw07_awake.f
  repeat' first
      | (with_reducible exact def_Key.mono _ _ _ _ _ _ _)
      | (with_reducible exact LeO.refl _)
      | (with_reducible exact LeO.none _)
      | (with_reducible refine LeO.ite ?_ ?_)
      | (with_reducible refine LeO.bind ?_ (fun _ => ?_))
      | exact def_Key.mono _ _ _ _ _ _ _
      | exact LeO.none _
      | refine LeO.ite ?_ ?_
      | refine LeO.bind ?_ (fun _ => ?_)
set_option maxHeartbeats 8000000 in
set_option maxRecDepth 100000 in
theorem monticulelaw07_awake.calls (k : Nat)  (r : Bool) (w : World) (h : monticulelaw07_awake.f k  = some r) :
    Calls Tryd.prog 6 #[] w fun e w' => e = .returned (.bool r) ∧ Below w.heap.size w w' := by
  have hu31 := Tryd.underlying31
  have HB := Aside0.mk (Below.refl w.heap.size w)
  have H : ((def_Key.f k 2 (⟨#[83, 116, 97, 99, 107]⟩ : ByteArray) (⟨#[]⟩ : ByteArray) ([] : List ByteArray) (⟨#[115, 105, 122, 101]⟩ : ByteArray) (⟨#[115, 105, 122, 101]⟩ : ByteArray)).bind fun t136 => (some (t136.toList == ([83, 116, 97, 99, 107, 62, 62, 115, 105, 122, 101] : List UInt8)))) = some r := h
  clear h
  replace H := Option.bind_eq_some_iff.mp H
  obtain ⟨t136, A10, H⟩ := H
  replace H : (some (t136.toList == ([83, 116, 97, 99, 107, 62, 62, 115, 105, 122, 101] : List UInt8))) = some r := H
  have A1 := Aside0.mk A10
  clear A10
  obtain rfl := Option.some.inj H
  go_enter Tryd.func6, Tryd.ntmps6
  go_wp2_with (first | ((with_reducible refine gate_callee (f := 29) rfl ?_); refine goesL_ (some 2) rfl rfl Tryd.func29 (by kernel_rfl) rfl #[.agg #[.int .i64 2, .string (⟨#[83, 116, 97, 99, 107]⟩ : ByteArray), .string (⟨#[]⟩ : ByteArray), .slice none 0 0, .string (⟨#[115, 105, 122, 101]⟩ : ByteArray), .string (⟨#[115, 105, 122, 101]⟩ : ByteArray)]] rfl (by (try simp only [List.map_toArray, List.map_cons, List.map_nil]); first | done | rfl | (simp only [List.length_drop, List.length_take]; rfl)) ?_; (refine (def_Key.calls k 2 (⟨#[83, 116, 97, 99, 107]⟩ : ByteArray) (⟨#[]⟩ : ByteArray) _ _ ([] : List ByteArray) (⟨#[115, 105, 122, 101]⟩ : ByteArray) (⟨#[115, 105, 122, 101]⟩ : ByteArray) t136 _ ?side1 ?side2 A1.out).mono ?_); (case side1 => exact Kd.C_nil _ _); (case side2 => exact Nat.le_refl _); rintro e w2 ⟨rfl, hb⟩; refine ⟨_, rfl, ?_⟩; have n0_ := Aside0.mk (below_step (by repeat (first | (with_reducible first | exact HB.out | apply below_alloc | apply pw_below_drewN | apply below_drew1) | exact HB.out)) hb); clear HB; have HB := n0_; clear n0_; (try clear hb); (try clear hb2); (try clear hk); (try clear hi)))
  go_ret
  exact ⟨by first | rfl | (simp [errW_none, errW_some] <;> rfl) | (simp [*, errW_none, errW_some] <;> rfl), by repeat (first | (with_reducible first | exact HB.out | apply below_alloc | apply pw_below_drewN | apply below_drew1) | exact HB.out)⟩

/-! ### monticuleref07_Small: function 15 -/
mutual
def monticuleref07_Small.j0 : Nat → Bool → Int → ByteArray → ByteArray → List ByteArray → ByteArray → ByteArray → Option (Bool)
  | 0, _, _, _, _, _, _, _ => none
  | k + 1, x31, x138000, x138001, x138002, x138003, x138004, x138005 => if x31 = true then (some false) else (monticuleref07_Small.l0 k 0 x138000 x138001 x138002 x138003 x138004 x138005)
def monticuleref07_Small.l0 : Nat → Int → Int → ByteArray → ByteArray → List ByteArray → ByteArray → ByteArray → Option (Bool)
  | 0, _, _, _, _, _, _, _ => none
  | k + 1, x3, x138000, x138001, x138002, x138003, x138004, x138005 => if x3 < (x138003.length : Int) then (if 0 ≤ x3 then (if ((rdOf ByteArray.empty x138003 x3).size : Int) > 100 then (some false) else (monticuleref07_Small.l0 k (wrap64 (x3 + 1)) x138000 x138001 x138002 x138003 x138004 x138005)) else (none)) else (some true)
end
def monticuleref07_Small.f (k : Nat) (a0_0 : Int) (a0_1 : ByteArray) (a0_2 : ByteArray) (l0_3 : List ByteArray) (a0_4 : ByteArray) (a0_5 : ByteArray) : Option (Bool) := if (a0_1.size : Int) > 100 then (monticuleref07_Small.j0 k true a0_0 a0_1 a0_2 l0_3 a0_4 a0_5) else (if (a0_2.size : Int) > 100 then (monticuleref07_Small.j0 k true a0_0 a0_1 a0_2 l0_3 a0_4 a0_5) else (if (l0_3.length : Int) > 30 then (monticuleref07_Small.j0 k true a0_0 a0_1 a0_2 l0_3 a0_4 a0_5) else (if (a0_4.size : Int) > 600 then (monticuleref07_Small.j0 k true a0_0 a0_1 a0_2 l0_3 a0_4 a0_5) else (monticuleref07_Small.j0 k (decide ((a0_5.size : Int) > 5000)) a0_0 a0_1 a0_2 l0_3 a0_4 a0_5))))
theorem monticuleref07_Small.mono_l : ∀ k, (∀ y0 y1 y2 y3 y4 y5 y6, LeO (monticuleref07_Small.j0 k y0 y1 y2 y3 y4 y5 y6) (monticuleref07_Small.j0 (k + 1) y0 y1 y2 y3 y4 y5 y6)) ∧ (∀ y0 y1 y2 y3 y4 y5 y6, LeO (monticuleref07_Small.l0 k y0 y1 y2 y3 y4 y5 y6) (monticuleref07_Small.l0 (k + 1) y0 y1 y2 y3 y4 y5 y6))
  | 0 => ⟨fun _ _ _ _ _ _ _ r h => by simp [monticuleref07_Small.j0] at h, fun _ _ _ _ _ _ _ r h => by simp [monticuleref07_Small.l0] at h⟩
  | k + 1 => by
    obtain ⟨ih0, ih1⟩ := monticuleref07_Small.mono_l k
    refine ⟨?_, ?_⟩
    · intro y0 y1 y2 y3 y4 y5 y6
      unfold monticuleref07_Small.j0
      repeat' first
      | (with_reducible exact ih0 _ _ _ _ _ _ _)
      | (with_reducible exact ih1 _ _ _ _ _ _ _)
      | (with_reducible exact LeO.refl _)
      | (with_reducible exact LeO.none _)
      | (with_reducible refine LeO.ite ?_ ?_)
      | (with_reducible refine LeO.bind ?_ (fun _ => ?_))
      | exact ih0 _ _ _ _ _ _ _
      | exact ih1 _ _ _ _ _ _ _
      | exact LeO.none _
      | refine LeO.ite ?_ ?_
      | refine LeO.bind ?_ (fun _ => ?_)
    · intro y0 y1 y2 y3 y4 y5 y6
      unfold monticuleref07_Small.l0
      repeat' first
      | (with_reducible exact ih0 _ _ _ _ _ _ _)
      | (with_reducible exact ih1 _ _ _ _ _ _ _)
      | (with_reducible exact LeO.refl _)
      | (with_reducible exact LeO.none _)
      | (with_reducible refine LeO.ite ?_ ?_)
      | (with_reducible refine LeO.bind ?_ (fun _ => ?_))
      | exact ih0 _ _ _ _ _ _ _
      | exact ih1 _ _ _ _ _ _ _
      | exact LeO.none _
      | refine LeO.ite ?_ ?_
      | refine LeO.bind ?_ (fun _ => ?_)
theorem monticuleref07_Small.mono : ∀ a0 a1 a2 a3 a4 a5 k, LeO (monticuleref07_Small.f k a0 a1 a2 a3 a4 a5) (monticuleref07_Small.f (k + 1) a0 a1 a2 a3 a4 a5) := by
  intro a0 a1 a2 a3 a4 a5 k
  obtain ⟨ih0, ih1⟩ := monticuleref07_Small.mono_l k
  unfold monticuleref07_Small.f
  repeat' first
      | (with_reducible exact ih0 _ _ _ _ _ _ _)
      | (with_reducible exact ih1 _ _ _ _ _ _ _)
      | (with_reducible exact LeO.refl _)
      | (with_reducible exact LeO.none _)
      | (with_reducible refine LeO.ite ?_ ?_)
      | (with_reducible refine LeO.bind ?_ (fun _ => ?_))
      | exact ih0 _ _ _ _ _ _ _
      | exact ih1 _ _ _ _ _ _ _
      | exact LeO.none _
      | refine LeO.ite ?_ ?_
      | refine LeO.bind ?_ (fun _ => ?_)
set_option maxHeartbeats 8000000 in
set_option maxRecDepth 100000 in
theorem monticuleref07_Small.calls (k : Nat) (a0_0 : Int) (a0_1 : ByteArray) (a0_2 : ByteArray) (A0_3 : Option Addr) (c0_3 : Nat) (l0_3 : List ByteArray) (a0_4 : ByteArray) (a0_5 : ByteArray) (r : Bool) (w : World) (hr0_3 : Kd.C Kd.string w A0_3 l0_3.length l0_3) (hc0_3 : l0_3.length ≤ c0_3) (h : monticuleref07_Small.f k a0_0 a0_1 a0_2 l0_3 a0_4 a0_5 = some r) :
    Calls Tryd.prog 15 #[.agg #[.int .i64 a0_0, .string a0_1, .string a0_2, .slice A0_3 l0_3.length c0_3, .string a0_4, .string a0_5]] w fun e w' => e = .returned (.bool r) ∧ Below w.heap.size w w' := by
  have hu31 := Tryd.underlying31
  have HR0_3 := Aside0.mk hr0_3
  have HC0_3 := Aside0.mk hc0_3
  clear hr0_3 hc0_3
  have HB := Aside0.mk (Below.refl w.heap.size w)
  have H : (if (a0_1.size : Int) > 100 then (monticuleref07_Small.j0 k true a0_0 a0_1 a0_2 l0_3 a0_4 a0_5) else (if (a0_2.size : Int) > 100 then (monticuleref07_Small.j0 k true a0_0 a0_1 a0_2 l0_3 a0_4 a0_5) else (if (l0_3.length : Int) > 30 then (monticuleref07_Small.j0 k true a0_0 a0_1 a0_2 l0_3 a0_4 a0_5) else (if (a0_4.size : Int) > 600 then (monticuleref07_Small.j0 k true a0_0 a0_1 a0_2 l0_3 a0_4 a0_5) else (monticuleref07_Small.j0 k (decide ((a0_5.size : Int) > 5000)) a0_0 a0_1 a0_2 l0_3 a0_4 a0_5))))) = some r := h
  clear h
  have HC2 := Aside0.mk H
  clear H
  go_enter Tryd.func15, Tryd.ntmps15
  go_upto_region 1 with (first | ((with_reducible refine gate_dst (N := 1) rfl ?_); (try (refine gate_guard (by rfl) ?_; dsimp only)); refine box_event ?hg (N := 1) ?hd (cs := #[.int .i64 a0_0, .string a0_1, .string a0_2, .slice A0_3 l0_3.length c0_3, .string a0_4, .string a0_5]) (t := 31) ?hr ?_; (case hd => rfl); (case hg => rfl); (case hr => first | (go_simp; done) | (go_simp; rfl)); intro gb137 hg w3 hbox hb; have n0_ := Aside0.mk (below_step (by repeat (first | (with_reducible first | exact HB.out | apply below_alloc | apply pw_below_drewN | apply below_drew1) | exact HB.out)) hb); have n1_ := Aside0.mk (hbox); have n2_ := Aside0.mk ((by rw [hg]; exact (below_size (by repeat (first | (with_reducible first | exact HB.out | apply below_alloc | apply pw_below_drewN | apply below_drew1) | exact HB.out))) : w.heap.size ≤ gb137)); have n3_ := Aside0.mk ((by rw [hg]; exact (below_size (by repeat (first | (with_reducible first | exact HB.out | apply below_alloc | apply pw_below_drewN | apply below_drew1) | exact HB.out))) : w.heap.size ≤ gb137)); clear HB; have HB := n0_; have BK137 := n1_; have GW137 := n2_; have GE137 := n3_; clear n0_ n1_ n2_ n3_; clear hb hbox hg))
  (try simp only [Act.put, List.setIfInBounds_toArray, List.set_cons_zero, List.set_cons_succ])
  go_cut [31] (fun v31 wc => ∃ (kq : Nat) (x31_1 : Bool), v31 = .bool x31_1 ∧ Aside0 (monticuleref07_Small.j0 kq x31_1 a0_0 a0_1 a0_2 l0_3 a0_4 a0_5 = some r) ∧ Aside0 (kq ≤ k) ∧ Aside0 (wc.heap[gb137]? = some (.cells #[.int .i64 a0_0, .string a0_1, .string a0_2, (.slice A0_3 l0_3.length c0_3), .string a0_4, .string a0_5] 31 (0, 0))) ∧ Aside0 (Below w.heap.size w wc))
  case first =>
    have H := HC2.out
    clear HC2
    by_cases c4 : (a0_1.size : Int) > 100
    · rw [if_pos c4] at H
      have c4b0 : decide (100 < (a0_1.size : Int)) = true := decide_eq_true c4
      have c4b1 : decide (100 < a0_1.size) = true := decide_eq_true (by omega)
      clear c4
      (first | rw [c4b0] | (simp only [i64_w, i32_w]; rw [c4b0]) | skip)
      have H' := Aside0.mk H
      clear H
      have hcz5_0 : w3.cell? ⟨gb137, 0, none⟩ = some (.int .i64 a0_0) := (blk_cell BK137.out 0).trans rfl
      have hcz5_1 : w3.cell? ⟨gb137, 1, none⟩ = some (.string a0_1) := (blk_cell BK137.out 1).trans rfl
      have hcz5_2 : w3.cell? ⟨gb137, 2, none⟩ = some (.string a0_2) := (blk_cell BK137.out 2).trans rfl
      have hcz5_3 : w3.cell? ⟨gb137, 3, none⟩ = some (.slice A0_3 l0_3.length c0_3) := (blk_cell BK137.out 3).trans rfl
      have hcz5_4 : w3.cell? ⟨gb137, 4, none⟩ = some (.string a0_4) := (blk_cell BK137.out 4).trans rfl
      have hcz5_5 : w3.cell? ⟨gb137, 5, none⟩ = some (.string a0_5) := (blk_cell BK137.out 5).trans rfl
      have hfz5_0 := blk_frozen BK137.out 0
      have hfz5_1 := blk_frozen BK137.out 1
      have hfz5_2 := blk_frozen BK137.out 2
      have hfz5_3 := blk_frozen BK137.out 3
      have hfz5_4 := blk_frozen BK137.out 4
      have hfz5_5 := blk_frozen BK137.out 5
      go_wp2
      go_meet
      case rel => exact ⟨_, (true), (by first | rfl | (simp; done) | (simp [*]; done)), H', ⟨by first | omega | exact Nat.le_refl _⟩, ⟨by (with_reducible repeat (first | refine blk_drewN ?_ _ | refine blk_drew ?_ | refine blk_alloc ?_ _)); exact BK137.out⟩, ⟨by repeat (first | (with_reducible first | exact HB.out | apply below_alloc | apply pw_below_drewN | apply below_drew1 | refine below_set ?_ GE137.out) | exact HB.out)⟩⟩
    · rw [if_neg c4] at H
      have c4b0 : decide (100 < (a0_1.size : Int)) = false := decide_eq_false c4
      have c4b1 : decide (100 < a0_1.size) = false := decide_eq_false (by omega)
      clear c4
      (first | rw [c4b0] | (simp only [i64_w, i32_w]; rw [c4b0]) | skip)
      by_cases c6 : (a0_2.size : Int) > 100
      · rw [if_pos c6] at H
        have c6b0 : decide (100 < (a0_2.size : Int)) = true := decide_eq_true c6
        have c6b1 : decide (100 < a0_2.size) = true := decide_eq_true (by omega)
        clear c6
        have H' := Aside0.mk H
        clear H
        have hcz7_0 : w3.cell? ⟨gb137, 0, none⟩ = some (.int .i64 a0_0) := (blk_cell BK137.out 0).trans rfl
        have hcz7_1 : w3.cell? ⟨gb137, 1, none⟩ = some (.string a0_1) := (blk_cell BK137.out 1).trans rfl
        have hcz7_2 : w3.cell? ⟨gb137, 2, none⟩ = some (.string a0_2) := (blk_cell BK137.out 2).trans rfl
        have hcz7_3 : w3.cell? ⟨gb137, 3, none⟩ = some (.slice A0_3 l0_3.length c0_3) := (blk_cell BK137.out 3).trans rfl
        have hcz7_4 : w3.cell? ⟨gb137, 4, none⟩ = some (.string a0_4) := (blk_cell BK137.out 4).trans rfl
        have hcz7_5 : w3.cell? ⟨gb137, 5, none⟩ = some (.string a0_5) := (blk_cell BK137.out 5).trans rfl
        have hfz7_0 := blk_frozen BK137.out 0
        have hfz7_1 := blk_frozen BK137.out 1
        have hfz7_2 := blk_frozen BK137.out 2
        have hfz7_3 := blk_frozen BK137.out 3
        have hfz7_4 := blk_frozen BK137.out 4
        have hfz7_5 := blk_frozen BK137.out 5
        go_wp2
        go_meet
        case rel => exact ⟨_, (true), (by first | rfl | (simp; done) | (simp [*]; done)), H', ⟨by first | omega | exact Nat.le_refl _⟩, ⟨by (with_reducible repeat (first | refine blk_drewN ?_ _ | refine blk_drew ?_ | refine blk_alloc ?_ _)); exact BK137.out⟩, ⟨by repeat (first | (with_reducible first | exact HB.out | apply below_alloc | apply pw_below_drewN | apply below_drew1 | refine below_set ?_ GE137.out) | exact HB.out)⟩⟩
      · rw [if_neg c6] at H
        have c6b0 : decide (100 < (a0_2.size : Int)) = false := decide_eq_false c6
        have c6b1 : decide (100 < a0_2.size) = false := decide_eq_false (by omega)
        clear c6
        by_cases c8 : (l0_3.length : Int) > 30
        · rw [if_pos c8] at H
          have c8b0 : decide (30 < (l0_3.length : Int)) = true := decide_eq_true c8
          have c8b1 : decide (30 < l0_3.length) = true := decide_eq_true (by omega)
          clear c8
          have H' := Aside0.mk H
          clear H
          have hcz9_0 : w3.cell? ⟨gb137, 0, none⟩ = some (.int .i64 a0_0) := (blk_cell BK137.out 0).trans rfl
          have hcz9_1 : w3.cell? ⟨gb137, 1, none⟩ = some (.string a0_1) := (blk_cell BK137.out 1).trans rfl
          have hcz9_2 : w3.cell? ⟨gb137, 2, none⟩ = some (.string a0_2) := (blk_cell BK137.out 2).trans rfl
          have hcz9_3 : w3.cell? ⟨gb137, 3, none⟩ = some (.slice A0_3 l0_3.length c0_3) := (blk_cell BK137.out 3).trans rfl
          have hcz9_4 : w3.cell? ⟨gb137, 4, none⟩ = some (.string a0_4) := (blk_cell BK137.out 4).trans rfl
          have hcz9_5 : w3.cell? ⟨gb137, 5, none⟩ = some (.string a0_5) := (blk_cell BK137.out 5).trans rfl
          have hfz9_0 := blk_frozen BK137.out 0
          have hfz9_1 := blk_frozen BK137.out 1
          have hfz9_2 := blk_frozen BK137.out 2
          have hfz9_3 := blk_frozen BK137.out 3
          have hfz9_4 := blk_frozen BK137.out 4
          have hfz9_5 := blk_frozen BK137.out 5
          go_wp2
          go_meet
          case rel => exact ⟨_, (true), (by first | rfl | (simp; done) | (simp [*]; done)), H', ⟨by first | omega | exact Nat.le_refl _⟩, ⟨by (with_reducible repeat (first | refine blk_drewN ?_ _ | refine blk_drew ?_ | refine blk_alloc ?_ _)); exact BK137.out⟩, ⟨by repeat (first | (with_reducible first | exact HB.out | apply below_alloc | apply pw_below_drewN | apply below_drew1 | refine below_set ?_ GE137.out) | exact HB.out)⟩⟩
        · rw [if_neg c8] at H
          have c8b0 : decide (30 < (l0_3.length : Int)) = false := decide_eq_false c8
          have c8b1 : decide (30 < l0_3.length) = false := decide_eq_false (by omega)
          clear c8
          by_cases c10 : (a0_4.size : Int) > 600
          · rw [if_pos c10] at H
            have c10b0 : decide (600 < (a0_4.size : Int)) = true := decide_eq_true c10
            have c10b1 : decide (600 < a0_4.size) = true := decide_eq_true (by omega)
            clear c10
            have H' := Aside0.mk H
            clear H
            have hcz11_0 : w3.cell? ⟨gb137, 0, none⟩ = some (.int .i64 a0_0) := (blk_cell BK137.out 0).trans rfl
            have hcz11_1 : w3.cell? ⟨gb137, 1, none⟩ = some (.string a0_1) := (blk_cell BK137.out 1).trans rfl
            have hcz11_2 : w3.cell? ⟨gb137, 2, none⟩ = some (.string a0_2) := (blk_cell BK137.out 2).trans rfl
            have hcz11_3 : w3.cell? ⟨gb137, 3, none⟩ = some (.slice A0_3 l0_3.length c0_3) := (blk_cell BK137.out 3).trans rfl
            have hcz11_4 : w3.cell? ⟨gb137, 4, none⟩ = some (.string a0_4) := (blk_cell BK137.out 4).trans rfl
            have hcz11_5 : w3.cell? ⟨gb137, 5, none⟩ = some (.string a0_5) := (blk_cell BK137.out 5).trans rfl
            have hfz11_0 := blk_frozen BK137.out 0
            have hfz11_1 := blk_frozen BK137.out 1
            have hfz11_2 := blk_frozen BK137.out 2
            have hfz11_3 := blk_frozen BK137.out 3
            have hfz11_4 := blk_frozen BK137.out 4
            have hfz11_5 := blk_frozen BK137.out 5
            go_wp2
            go_meet
            case rel => exact ⟨_, (true), (by first | rfl | (simp; done) | (simp [*]; done)), H', ⟨by first | omega | exact Nat.le_refl _⟩, ⟨by (with_reducible repeat (first | refine blk_drewN ?_ _ | refine blk_drew ?_ | refine blk_alloc ?_ _)); exact BK137.out⟩, ⟨by repeat (first | (with_reducible first | exact HB.out | apply below_alloc | apply pw_below_drewN | apply below_drew1 | refine below_set ?_ GE137.out) | exact HB.out)⟩⟩
          · rw [if_neg c10] at H
            have c10b0 : decide (600 < (a0_4.size : Int)) = false := decide_eq_false c10
            have c10b1 : decide (600 < a0_4.size) = false := decide_eq_false (by omega)
            clear c10
            have H' := Aside0.mk H
            clear H
            have hcz12_0 : w3.cell? ⟨gb137, 0, none⟩ = some (.int .i64 a0_0) := (blk_cell BK137.out 0).trans rfl
            have hcz12_1 : w3.cell? ⟨gb137, 1, none⟩ = some (.string a0_1) := (blk_cell BK137.out 1).trans rfl
            have hcz12_2 : w3.cell? ⟨gb137, 2, none⟩ = some (.string a0_2) := (blk_cell BK137.out 2).trans rfl
            have hcz12_3 : w3.cell? ⟨gb137, 3, none⟩ = some (.slice A0_3 l0_3.length c0_3) := (blk_cell BK137.out 3).trans rfl
            have hcz12_4 : w3.cell? ⟨gb137, 4, none⟩ = some (.string a0_4) := (blk_cell BK137.out 4).trans rfl
            have hcz12_5 : w3.cell? ⟨gb137, 5, none⟩ = some (.string a0_5) := (blk_cell BK137.out 5).trans rfl
            have hfz12_0 := blk_frozen BK137.out 0
            have hfz12_1 := blk_frozen BK137.out 1
            have hfz12_2 := blk_frozen BK137.out 2
            have hfz12_3 := blk_frozen BK137.out 3
            have hfz12_4 := blk_frozen BK137.out 4
            have hfz12_5 := blk_frozen BK137.out 5
            go_wp2
            go_meet
            case rel => exact ⟨_, (decide ((a0_5.size : Int) > 5000)), (by first | rfl | (simp; done) | (simp [*]; done)), H', ⟨by first | omega | exact Nat.le_refl _⟩, ⟨by (with_reducible repeat (first | refine blk_drewN ?_ _ | refine blk_drew ?_ | refine blk_alloc ?_ _)); exact BK137.out⟩, ⟨by repeat (first | (with_reducible first | exact HB.out | apply below_alloc | apply pw_below_drewN | apply below_drew1 | refine below_set ?_ GE137.out) | exact HB.out)⟩⟩
  case rest =>
    clear HC2
    try clear c1
    try clear p2
    try clear c4
    try clear c4b0
    try clear c4b1
    try clear c6
    try clear c6b0
    try clear c6b1
    try clear c8
    try clear c8b0
    try clear c8b1
    try clear c10
    try clear c10b0
    try clear c10b1
    try clear hcz11_0
    try clear hcz11_1
    try clear hcz11_2
    try clear hcz11_3
    try clear hcz11_4
    try clear hcz11_5
    try clear hcz12_0
    try clear hcz12_1
    try clear hcz12_2
    try clear hcz12_3
    try clear hcz12_4
    try clear hcz12_5
    try clear hcz5_0
    try clear hcz5_1
    try clear hcz5_2
    try clear hcz5_3
    try clear hcz5_4
    try clear hcz5_5
    try clear hcz7_0
    try clear hcz7_1
    try clear hcz7_2
    try clear hcz7_3
    try clear hcz7_4
    try clear hcz7_5
    try clear hcz9_0
    try clear hcz9_1
    try clear hcz9_2
    try clear hcz9_3
    try clear hcz9_4
    try clear hcz9_5
    try clear hfz11_0
    try clear hfz11_1
    try clear hfz11_2
    try clear hfz11_3
    try clear hfz11_4
    try clear hfz11_5
    try clear hfz12_0
    try clear hfz12_1
    try clear hfz12_2
    try clear hfz12_3
    try clear hfz12_4
    try clear hfz12_5
    try clear hfz5_0
    try clear hfz5_1
    try clear hfz5_2
    try clear hfz5_3
    try clear hfz5_4
    try clear hfz5_5
    try clear hfz7_0
    try clear hfz7_1
    try clear hfz7_2
    try clear hfz7_3
    try clear hfz7_4
    try clear hfz7_5
    try clear hfz9_0
    try clear hfz9_1
    try clear hfz9_2
    try clear hfz9_3
    try clear hfz9_4
    try clear hfz9_5
    obtain ⟨kq, x31_1, rfl, HA, HJ1, BK137, HB⟩ := hcut
    cases kq with
    | zero => exact absurd HA.out (by simp [monticuleref07_Small.j0])
    | succ kj1 =>
      have H := HA.out
      clear HA
      simp only [monticuleref07_Small.j0] at H
      by_cases c13 : x31_1 = true
      · subst c13
        have H1 : (some false) = some r := by rw [if_pos rfl] at H; exact H
        clear H
        have H := H1
        clear H1
        obtain rfl := Option.some.inj H
        go_wp2
        go_ret
        exact ⟨by first | rfl | (simp [errW_none, errW_some] <;> rfl) | (simp [*, errW_none, errW_some] <;> rfl), by repeat (first | (with_reducible first | exact HB.out | apply below_alloc | apply pw_below_drewN | apply below_drew1 | refine below_set ?_ GE137.out) | exact HB.out)⟩
      · replace c13 := Bool.eq_false_iff.mpr c13
        subst c13
        have H1 : (monticuleref07_Small.l0 kj1 0 a0_0 a0_1 a0_2 l0_3 a0_4 a0_5) = some r := by rw [if_neg (show ¬ (false = true) by decide)] at H; exact H
        clear H
        have H := H1
        clear H1
        have H' := Aside0.mk H
        clear H
        go_wp2
        go_loopg [3] kj1 (fun kq v3 w' => ∃ (x3_2 : Int), v3 = .int .i64 x3_2 ∧ Aside0 (monticuleref07_Small.l0 kq x3_2 a0_0 a0_1 a0_2 l0_3 a0_4 a0_5 = some r) ∧ Aside0 (kq ≤ kj1) ∧ Aside0 (w'.heap[gb137]? = some (.cells #[.int .i64 a0_0, .string a0_1, .string a0_2, (.slice A0_3 l0_3.length c0_3), .string a0_4, .string a0_5] 31 (0, 0))) ∧ Aside0 (Below w.heap.size w w'))
        case atStart => exact ⟨(0), (by first | rfl | (simp; done) | (simp [*]; done)), H', ⟨Nat.le_refl _⟩, ⟨by (with_reducible repeat (first | refine blk_drewN ?_ _ | refine blk_drew ?_ | refine blk_alloc ?_ _)); exact BK137.out⟩, ⟨by repeat (first | (with_reducible first | exact HB.out | apply below_alloc | apply pw_below_drewN | apply below_drew1 | refine below_set ?_ GE137.out) | exact HB.out)⟩⟩
        case round =>
          clear H'
          try clear c1
          try clear p2
          try clear c4
          try clear c4b0
          try clear c4b1
          try clear c6
          try clear c6b0
          try clear c6b1
          try clear c8
          try clear c8b0
          try clear c8b1
          try clear c10
          try clear c10b0
          try clear c10b1
          try clear c13
          try clear hcz11_0
          try clear hcz11_1
          try clear hcz11_2
          try clear hcz11_3
          try clear hcz11_4
          try clear hcz11_5
          try clear hcz12_0
          try clear hcz12_1
          try clear hcz12_2
          try clear hcz12_3
          try clear hcz12_4
          try clear hcz12_5
          try clear hcz5_0
          try clear hcz5_1
          try clear hcz5_2
          try clear hcz5_3
          try clear hcz5_4
          try clear hcz5_5
          try clear hcz7_0
          try clear hcz7_1
          try clear hcz7_2
          try clear hcz7_3
          try clear hcz7_4
          try clear hcz7_5
          try clear hcz9_0
          try clear hcz9_1
          try clear hcz9_2
          try clear hcz9_3
          try clear hcz9_4
          try clear hcz9_5
          try clear hfz11_0
          try clear hfz11_1
          try clear hfz11_2
          try clear hfz11_3
          try clear hfz11_4
          try clear hfz11_5
          try clear hfz12_0
          try clear hfz12_1
          try clear hfz12_2
          try clear hfz12_3
          try clear hfz12_4
          try clear hfz12_5
          try clear hfz5_0
          try clear hfz5_1
          try clear hfz5_2
          try clear hfz5_3
          try clear hfz5_4
          try clear hfz5_5
          try clear hfz7_0
          try clear hfz7_1
          try clear hfz7_2
          try clear hfz7_3
          try clear hfz7_4
          try clear hfz7_5
          try clear hfz9_0
          try clear hfz9_1
          try clear hfz9_2
          try clear hfz9_3
          try clear hfz9_4
          try clear hfz9_5
          try clear p2
          obtain ⟨x3_2, rfl, HA, HK2, BK137, HB⟩ := hrel
          cases gk with
          | zero => exact absurd HA.out (by simp [monticuleref07_Small.l0])
          | succ k2 =>
            have H := HA.out
            clear HA
            simp only [monticuleref07_Small.l0] at H
            by_cases c14 : x3_2 < (l0_3.length : Int)
            · rw [if_pos c14] at H
              have c14b0 : decide (x3_2 < (l0_3.length : Int)) = true := decide_eq_true c14
              clear c14
              by_cases c15 : 0 ≤ x3_2
              · rw [if_pos c15] at H
                have c15b0 : decide (0 ≤ x3_2) = true := decide_eq_true c15
                clear c15
                by_cases c16 : ((rdOf ByteArray.empty l0_3 x3_2).size : Int) > 100
                · rw [if_pos c16] at H
                  have c16b0 : decide (100 < ((rdOf ByteArray.empty l0_3 x3_2).size : Int)) = true := decide_eq_true c16
                  have c16b1 : decide (100 < (rdOf ByteArray.empty l0_3 x3_2).size) = true := decide_eq_true (by omega)
                  clear c16
                  obtain rfl := Option.some.inj H
                  have hcz17_0 : wr.cell? ⟨gb137, 0, none⟩ = some (.int .i64 a0_0) := (blk_cell BK137.out 0).trans rfl
                  have hcz17_1 : wr.cell? ⟨gb137, 1, none⟩ = some (.string a0_1) := (blk_cell BK137.out 1).trans rfl
                  have hcz17_2 : wr.cell? ⟨gb137, 2, none⟩ = some (.string a0_2) := (blk_cell BK137.out 2).trans rfl
                  have hcz17_3 : wr.cell? ⟨gb137, 3, none⟩ = some (.slice A0_3 l0_3.length c0_3) := (blk_cell BK137.out 3).trans rfl
                  have hcz17_4 : wr.cell? ⟨gb137, 4, none⟩ = some (.string a0_4) := (blk_cell BK137.out 4).trans rfl
                  have hcz17_5 : wr.cell? ⟨gb137, 5, none⟩ = some (.string a0_5) := (blk_cell BK137.out 5).trans rfl
                  have hfz17_0 := blk_frozen BK137.out 0
                  have hfz17_1 := blk_frozen BK137.out 1
                  have hfz17_2 := blk_frozen BK137.out 2
                  have hfz17_3 := blk_frozen BK137.out 3
                  have hfz17_4 := blk_frozen BK137.out 4
                  have hfz17_5 := blk_frozen BK137.out 5
                  have p138 : 0 ≤ (x3_2 : Int) := of_decide_eq_true (by first | (with_reducible assumption) | assumption)
                  have q138 : x3_2 < (l0_3.length : Int) := of_decide_eq_true (by first | (with_reducible assumption) | assumption)
                  obtain ⟨ad138, e138, hx138_0⟩ := Kd.at_string HR0_3.out x3_2 p138 q138
                  cases e138
                  replace hx138_0 := (HB.out.cell (World.block_lt_of_cell? w _ hx138_0)).trans hx138_0
                  replace p138 := eq_true p138
                  replace q138 := eq_true q138
                  go_wp2
                  go_ret
                  exact ⟨by first | rfl | (simp [errW_none, errW_some] <;> rfl) | (simp [*, errW_none, errW_some] <;> rfl), by repeat (first | (with_reducible first | exact HB.out | apply below_alloc | apply pw_below_drewN | apply below_drew1 | refine below_set ?_ GE137.out) | exact HB.out)⟩
                · rw [if_neg c16] at H
                  have c16b0 : decide (100 < ((rdOf ByteArray.empty l0_3 x3_2).size : Int)) = false := decide_eq_false c16
                  have c16b1 : decide (100 < (rdOf ByteArray.empty l0_3 x3_2).size) = false := decide_eq_false (by omega)
                  clear c16
                  have H' := Aside0.mk H
                  clear H
                  have hcz18_0 : wr.cell? ⟨gb137, 0, none⟩ = some (.int .i64 a0_0) := (blk_cell BK137.out 0).trans rfl
                  have hcz18_1 : wr.cell? ⟨gb137, 1, none⟩ = some (.string a0_1) := (blk_cell BK137.out 1).trans rfl
                  have hcz18_2 : wr.cell? ⟨gb137, 2, none⟩ = some (.string a0_2) := (blk_cell BK137.out 2).trans rfl
                  have hcz18_3 : wr.cell? ⟨gb137, 3, none⟩ = some (.slice A0_3 l0_3.length c0_3) := (blk_cell BK137.out 3).trans rfl
                  have hcz18_4 : wr.cell? ⟨gb137, 4, none⟩ = some (.string a0_4) := (blk_cell BK137.out 4).trans rfl
                  have hcz18_5 : wr.cell? ⟨gb137, 5, none⟩ = some (.string a0_5) := (blk_cell BK137.out 5).trans rfl
                  have hfz18_0 := blk_frozen BK137.out 0
                  have hfz18_1 := blk_frozen BK137.out 1
                  have hfz18_2 := blk_frozen BK137.out 2
                  have hfz18_3 := blk_frozen BK137.out 3
                  have hfz18_4 := blk_frozen BK137.out 4
                  have hfz18_5 := blk_frozen BK137.out 5
                  have p138 : 0 ≤ (x3_2 : Int) := of_decide_eq_true (by first | (with_reducible assumption) | assumption)
                  have q138 : x3_2 < (l0_3.length : Int) := of_decide_eq_true (by first | (with_reducible assumption) | assumption)
                  obtain ⟨ad138, e138, hx138_0⟩ := Kd.at_string HR0_3.out x3_2 p138 q138
                  cases e138
                  replace hx138_0 := (HB.out.cell (World.block_lt_of_cell? w _ hx138_0)).trans hx138_0
                  replace p138 := eq_true p138
                  replace q138 := eq_true q138
                  go_wp2
                  go_roundg k2
                  case measure => have := HJ1.out; have := HK2.out; omega
                  case rel => exact ⟨(wrap64 (x3_2 + 1)), (by first | rfl | (simp; done) | (simp [*]; done)), H', ⟨by have := HJ1.out; have := HK2.out; omega⟩, ⟨by (with_reducible repeat (first | refine blk_drewN ?_ _ | refine blk_drew ?_ | refine blk_alloc ?_ _)); exact BK137.out⟩, ⟨by repeat (first | (with_reducible first | exact HB.out | apply below_alloc | apply pw_below_drewN | apply below_drew1 | refine below_set ?_ GE137.out) | exact HB.out)⟩⟩
              · rw [if_neg c15] at H
                exact absurd H (by simp)
            · rw [if_neg c14] at H
              have c14b0 : decide (x3_2 < (l0_3.length : Int)) = false := decide_eq_false c14
              clear c14
              obtain rfl := Option.some.inj H
              have hcz19_0 : wr.cell? ⟨gb137, 0, none⟩ = some (.int .i64 a0_0) := (blk_cell BK137.out 0).trans rfl
              have hcz19_1 : wr.cell? ⟨gb137, 1, none⟩ = some (.string a0_1) := (blk_cell BK137.out 1).trans rfl
              have hcz19_2 : wr.cell? ⟨gb137, 2, none⟩ = some (.string a0_2) := (blk_cell BK137.out 2).trans rfl
              have hcz19_3 : wr.cell? ⟨gb137, 3, none⟩ = some (.slice A0_3 l0_3.length c0_3) := (blk_cell BK137.out 3).trans rfl
              have hcz19_4 : wr.cell? ⟨gb137, 4, none⟩ = some (.string a0_4) := (blk_cell BK137.out 4).trans rfl
              have hcz19_5 : wr.cell? ⟨gb137, 5, none⟩ = some (.string a0_5) := (blk_cell BK137.out 5).trans rfl
              have hfz19_0 := blk_frozen BK137.out 0
              have hfz19_1 := blk_frozen BK137.out 1
              have hfz19_2 := blk_frozen BK137.out 2
              have hfz19_3 := blk_frozen BK137.out 3
              have hfz19_4 := blk_frozen BK137.out 4
              have hfz19_5 := blk_frozen BK137.out 5
              go_wp2
              go_ret
              exact ⟨by first | rfl | (simp [errW_none, errW_some] <;> rfl) | (simp [*, errW_none, errW_some] <;> rfl), by repeat (first | (with_reducible first | exact HB.out | apply below_alloc | apply pw_below_drewN | apply below_drew1 | refine below_set ?_ GE137.out) | exact HB.out)⟩

/-! ### monticuleref07_Few: function 14 -/
def monticuleref07_Few.l0 : Nat → List (S31) → Int → Option (Bool)
  | 0, _, _ => none
  | k + 1, x0, x5 => if x5 < (x0.length : Int) then (if 0 ≤ x5 then ((monticuleref07_Small.f k ((rd_T31 x0 x5).f0) ((rd_T31 x0 x5).f1) ((rd_T31 x0 x5).f2) ((rd_T31 x0 x5).f3) ((rd_T31 x0 x5).f4) ((rd_T31 x0 x5).f5)).bind fun t140 => (if t140 = true then (monticuleref07_Few.l0 k x0 (wrap64 (x5 + 1))) else (some false))) else (none)) else (some true)
def monticuleref07_Few.f (k : Nat) (l0 : List (S31)) (a1 : Int) : Option (Bool) := if (l0.length : Int) > a1 then (some false) else (monticuleref07_Few.l0 k l0 0)
theorem monticuleref07_Few.mono_l : ∀ k, (∀ y0 y1, LeO (monticuleref07_Few.l0 k y0 y1) (monticuleref07_Few.l0 (k + 1) y0 y1))
  | 0 => fun _ _ r h => by simp [monticuleref07_Few.l0] at h
  | k + 1 => by
    have ih0 := monticuleref07_Few.mono_l k
    · intro y0 y1
      unfold monticuleref07_Few.l0
      repeat' first
      | (with_reducible exact ih0 _ _)
      | (with_reducible exact monticuleref07_Small.mono _ _ _ _ _ _ _)
      | (with_reducible exact LeO.refl _)
      | (with_reducible exact LeO.none _)
      | (with_reducible refine LeO.ite ?_ ?_)
      | (with_reducible refine LeO.bind ?_ (fun _ => ?_))
      | exact ih0 _ _
      | exact monticuleref07_Small.mono _ _ _ _ _ _ _
      | exact LeO.none _
      | refine LeO.ite ?_ ?_
      | refine LeO.bind ?_ (fun _ => ?_)
theorem monticuleref07_Few.mono : ∀ a0 a1 k, LeO (monticuleref07_Few.f k a0 a1) (monticuleref07_Few.f (k + 1) a0 a1) := by
  intro a0 a1 k
  have ih0 := monticuleref07_Few.mono_l k
  unfold monticuleref07_Few.f
  repeat' first
      | (with_reducible exact ih0 _ _)
      | (with_reducible exact monticuleref07_Small.mono _ _ _ _ _ _ _)
      | (with_reducible exact LeO.refl _)
      | (with_reducible exact LeO.none _)
      | (with_reducible refine LeO.ite ?_ ?_)
      | (with_reducible refine LeO.bind ?_ (fun _ => ?_))
      | exact ih0 _ _
      | exact monticuleref07_Small.mono _ _ _ _ _ _ _
      | exact LeO.none _
      | refine LeO.ite ?_ ?_
      | refine LeO.bind ?_ (fun _ => ?_)
set_option maxHeartbeats 8000000 in
set_option maxRecDepth 100000 in
theorem monticuleref07_Few.calls (k : Nat) (A0 : Option Addr) (c0 : Nat) (l0 : List (S31)) (a1 : Int) (r : Bool) (w : World) (hr0 : Kd.C k31 w A0 l0.length l0) (hc0 : l0.length ≤ c0) (h : monticuleref07_Few.f k l0 a1 = some r) :
    Calls Tryd.prog 14 #[.slice A0 l0.length c0, .int .i64 a1] w fun e w' => e = .returned (.bool r) ∧ Below w.heap.size w w' := by
  have hu31 := Tryd.underlying31
  have HR0 := Aside0.mk hr0
  have HC0 := Aside0.mk hc0
  clear hr0 hc0
  have HB := Aside0.mk (Below.refl w.heap.size w)
  have H : (if (l0.length : Int) > a1 then (some false) else (monticuleref07_Few.l0 k l0 0)) = some r := h
  clear h
  by_cases c3 : (l0.length : Int) > a1
  · rw [if_pos c3] at H
    have c3b0 : decide (a1 < (l0.length : Int)) = true := decide_eq_true c3
    clear c3
    obtain rfl := Option.some.inj H
    go_enter Tryd.func14, Tryd.ntmps14
    go_wp2
    go_ret
    exact ⟨by first | rfl | (simp [errW_none, errW_some] <;> rfl) | (simp [*, errW_none, errW_some] <;> rfl), by repeat (first | (with_reducible first | exact HB.out | apply below_alloc | apply pw_below_drewN | apply below_drew1) | exact HB.out)⟩
  · rw [if_neg c3] at H
    have c3b0 : decide (a1 < (l0.length : Int)) = false := decide_eq_false c3
    clear c3
    have H' := Aside0.mk H
    clear H
    go_enter Tryd.func14, Tryd.ntmps14
    go_wp2
    go_loopg [5] k (fun kq v5 w' => ∃ (x5_1 : Int), v5 = .int .i64 x5_1 ∧ Aside0 (monticuleref07_Few.l0 kq l0 x5_1 = some r) ∧ Aside0 (kq ≤ k) ∧ Aside0 (Below w.heap.size w w'))
    case atStart => exact ⟨(0), (by first | rfl | (simp; done) | (simp [*]; done)), H', ⟨Nat.le_refl _⟩, ⟨by repeat (first | (with_reducible first | exact HB.out | apply below_alloc | apply pw_below_drewN | apply below_drew1) | exact HB.out)⟩⟩
    case round =>
      clear H'
      try clear c1
      try clear p2
      try clear c3
      try clear c3b0
      obtain ⟨x5_1, rfl, HA, HK1, HB⟩ := hrel
      cases gk with
      | zero => exact absurd HA.out (by simp [monticuleref07_Few.l0])
      | succ k1 =>
        have H := HA.out
        clear HA
        simp only [monticuleref07_Few.l0] at H
        by_cases c4 : x5_1 < (l0.length : Int)
        · rw [if_pos c4] at H
          have c4b0 : decide (x5_1 < (l0.length : Int)) = true := decide_eq_true c4
          clear c4
          by_cases c5 : 0 ≤ x5_1
          · rw [if_pos c5] at H
            have c5b0 : decide (0 ≤ x5_1) = true := decide_eq_true c5
            clear c5
            replace H := Option.bind_eq_some_iff.mp H
            obtain ⟨t140, A60, H⟩ := H
            replace H : (if t140 = true then (monticuleref07_Few.l0 k1 l0 (wrap64 (x5_1 + 1))) else (some false)) = some r := H
            have A6 := Aside0.mk A60
            clear A60
            by_cases c7 : t140 = true
            · subst c7
              have H1 : (monticuleref07_Few.l0 k1 l0 (wrap64 (x5_1 + 1))) = some r := by rw [if_pos rfl] at H; exact H
              clear H
              have H := H1
              clear H1
              have H' := Aside0.mk H
              clear H
              have p139 : 0 ≤ (x5_1 : Int) := of_decide_eq_true (by first | (with_reducible assumption) | assumption)
              have q139 : x5_1 < (l0.length : Int) := of_decide_eq_true (by first | (with_reducible assumption) | assumption)
              obtain ⟨ad139, A139_3, c139_3, e139, hx139_0, hx139_1, hx139_2, hx139_3, hx139_4, hx139_5, hl139_3, hi139_3⟩ := at_T31 HR0.out x5_1 p139 q139
              cases e139
              replace hx139_0 := (HB.out.cell (World.block_lt_of_cell? w _ hx139_0)).trans hx139_0
              replace hx139_1 := (HB.out.cell (World.block_lt_of_cell? w _ hx139_1)).trans hx139_1
              replace hx139_2 := (HB.out.cell (World.block_lt_of_cell? w _ hx139_2)).trans hx139_2
              replace hx139_3 := (HB.out.cell (World.block_lt_of_cell? w _ hx139_3)).trans hx139_3
              replace hx139_4 := (HB.out.cell (World.block_lt_of_cell? w _ hx139_4)).trans hx139_4
              replace hx139_5 := (HB.out.cell (World.block_lt_of_cell? w _ hx139_5)).trans hx139_5
              have HR139_3 := Aside0.mk hi139_3
              have HC139_3 := Aside0.mk hl139_3
              clear hi139_3 hl139_3
              replace p139 := eq_true p139
              replace q139 := eq_true q139
              go_wp2_with (first | ((with_reducible refine gate_callee (f := 15) rfl ?_); refine goesL_ (some 20) rfl rfl Tryd.func15 (by kernel_rfl) rfl #[.agg #[.int .i64 ((rd_T31 l0 x5_1).f0), .string ((rd_T31 l0 x5_1).f1), .string ((rd_T31 l0 x5_1).f2), .slice A139_3 ((rd_T31 l0 x5_1).f3).length c139_3, .string ((rd_T31 l0 x5_1).f4), .string ((rd_T31 l0 x5_1).f5)]] rfl (by (try simp only [List.map_toArray, List.map_cons, List.map_nil]); first | done | rfl | (simp only [List.length_drop, List.length_take]; rfl)) ?_; (with_reducible refine (monticuleref07_Small.calls k1 ((rd_T31 l0 x5_1).f0) ((rd_T31 l0 x5_1).f1) ((rd_T31 l0 x5_1).f2) _ _ ((rd_T31 l0 x5_1).f3) ((rd_T31 l0 x5_1).f4) ((rd_T31 l0 x5_1).f5) true _ ?side1 ?side2 A6.out).mono ?_); (case side1 => repeat (first | exact (Kd.C_below HR139_3.out HB.out) | (with_reducible refine Kd.C_alloc ?_ _) | (with_reducible refine Kd.C_drewN ?_ _) | (with_reducible refine Kd.C_drew ?_))); (case side2 => exact HC139_3.out); rintro e w8 ⟨rfl, hb⟩; refine ⟨_, rfl, ?_⟩; have n0_ := Aside0.mk (below_step (by repeat (first | (with_reducible first | exact HB.out | apply below_alloc | apply pw_below_drewN | apply below_drew1) | exact HB.out)) hb); clear HB; have HB := n0_; clear n0_; (try clear hb); (try clear hb2); (try clear hk); (try clear hi)))
              go_roundg k1
              case measure => have := HK1.out; omega
              case rel => exact ⟨(wrap64 (x5_1 + 1)), (by first | rfl | (simp; done) | (simp [*]; done)), H', ⟨by have := HK1.out; omega⟩, ⟨by repeat (first | (with_reducible first | exact HB.out | apply below_alloc | apply pw_below_drewN | apply below_drew1) | exact HB.out)⟩⟩
            · replace c7 := Bool.eq_false_iff.mpr c7
              subst c7
              have H1 : (some false) = some r := by rw [if_neg (show ¬ (false = true) by decide)] at H; exact H
              clear H
              have H := H1
              clear H1
              obtain rfl := Option.some.inj H
              have p139 : 0 ≤ (x5_1 : Int) := of_decide_eq_true (by first | (with_reducible assumption) | assumption)
              have q139 : x5_1 < (l0.length : Int) := of_decide_eq_true (by first | (with_reducible assumption) | assumption)
              obtain ⟨ad139, A139_3, c139_3, e139, hx139_0, hx139_1, hx139_2, hx139_3, hx139_4, hx139_5, hl139_3, hi139_3⟩ := at_T31 HR0.out x5_1 p139 q139
              cases e139
              replace hx139_0 := (HB.out.cell (World.block_lt_of_cell? w _ hx139_0)).trans hx139_0
              replace hx139_1 := (HB.out.cell (World.block_lt_of_cell? w _ hx139_1)).trans hx139_1
              replace hx139_2 := (HB.out.cell (World.block_lt_of_cell? w _ hx139_2)).trans hx139_2
              replace hx139_3 := (HB.out.cell (World.block_lt_of_cell? w _ hx139_3)).trans hx139_3
              replace hx139_4 := (HB.out.cell (World.block_lt_of_cell? w _ hx139_4)).trans hx139_4
              replace hx139_5 := (HB.out.cell (World.block_lt_of_cell? w _ hx139_5)).trans hx139_5
              have HR139_3 := Aside0.mk hi139_3
              have HC139_3 := Aside0.mk hl139_3
              clear hi139_3 hl139_3
              replace p139 := eq_true p139
              replace q139 := eq_true q139
              go_wp2_with (first | ((with_reducible refine gate_callee (f := 15) rfl ?_); refine goesL_ (some 20) rfl rfl Tryd.func15 (by kernel_rfl) rfl #[.agg #[.int .i64 ((rd_T31 l0 x5_1).f0), .string ((rd_T31 l0 x5_1).f1), .string ((rd_T31 l0 x5_1).f2), .slice A139_3 ((rd_T31 l0 x5_1).f3).length c139_3, .string ((rd_T31 l0 x5_1).f4), .string ((rd_T31 l0 x5_1).f5)]] rfl (by (try simp only [List.map_toArray, List.map_cons, List.map_nil]); first | done | rfl | (simp only [List.length_drop, List.length_take]; rfl)) ?_; (with_reducible refine (monticuleref07_Small.calls k1 ((rd_T31 l0 x5_1).f0) ((rd_T31 l0 x5_1).f1) ((rd_T31 l0 x5_1).f2) _ _ ((rd_T31 l0 x5_1).f3) ((rd_T31 l0 x5_1).f4) ((rd_T31 l0 x5_1).f5) false _ ?side1 ?side2 A6.out).mono ?_); (case side1 => repeat (first | exact (Kd.C_below HR139_3.out HB.out) | (with_reducible refine Kd.C_alloc ?_ _) | (with_reducible refine Kd.C_drewN ?_ _) | (with_reducible refine Kd.C_drew ?_))); (case side2 => exact HC139_3.out); rintro e w9 ⟨rfl, hb⟩; refine ⟨_, rfl, ?_⟩; have n0_ := Aside0.mk (below_step (by repeat (first | (with_reducible first | exact HB.out | apply below_alloc | apply pw_below_drewN | apply below_drew1) | exact HB.out)) hb); clear HB; have HB := n0_; clear n0_; (try clear hb); (try clear hb2); (try clear hk); (try clear hi)))
              go_ret
              exact ⟨by first | rfl | (simp [errW_none, errW_some] <;> rfl) | (simp [*, errW_none, errW_some] <;> rfl), by repeat (first | (with_reducible first | exact HB.out | apply below_alloc | apply pw_below_drewN | apply below_drew1) | exact HB.out)⟩
          · rw [if_neg c5] at H
            exact absurd H (by simp)
        · rw [if_neg c4] at H
          have c4b0 : decide (x5_1 < (l0.length : Int)) = false := decide_eq_false c4
          clear c4
          obtain rfl := Option.some.inj H
          go_wp2
          go_ret
          exact ⟨by first | rfl | (simp [errW_none, errW_some] <;> rfl) | (simp [*, errW_none, errW_some] <;> rfl), by repeat (first | (with_reducible first | exact HB.out | apply below_alloc | apply pw_below_drewN | apply below_drew1) | exact HB.out)⟩

/-! ### monticuleref06_small: function 66 -/
def monticuleref06_small.f (a0 : Int) : Option (Bool) := if a0 ≥ 97 then (some (decide (a0 ≤ 122))) else (some false)
set_option maxHeartbeats 8000000 in
set_option maxRecDepth 100000 in
theorem monticuleref06_small.calls (a0 : Int) (r : Bool) (w : World) (h : monticuleref06_small.f a0 = some r) :
    Calls Tryd.prog 66 #[.int .u8 a0] w fun e w' => e = .returned (.bool r) ∧ Drawn0 w w' := by
  have H : (if a0 ≥ 97 then (some (decide (a0 ≤ 122))) else (some false)) = some r := h
  clear h
  by_cases c2 : a0 ≥ 97
  · rw [if_pos c2] at H
    have c2b0 : decide (97 ≤ a0) = true := decide_eq_true c2
    clear c2
    obtain rfl := Option.some.inj H
    go_enter Tryd.func66, Tryd.ntmps66
    go_wp2
    go_ret
    exact ⟨by first | rfl | (simp; done) | (simp [*]; done), by repeat (first | exact Drawn0.refl _ | apply Drawn0.step)⟩
  · rw [if_neg c2] at H
    have c2b0 : decide (97 ≤ a0) = false := decide_eq_false c2
    clear c2
    obtain rfl := Option.some.inj H
    go_enter Tryd.func66, Tryd.ntmps66
    go_wp2
    go_ret
    exact ⟨by first | rfl | (simp; done) | (simp [*]; done), by repeat (first | exact Drawn0.refl _ | apply Drawn0.step)⟩

/-! ### monticuleref06_letter: function 78 -/
def monticuleref06_letter.f (a0 : Int) : Option (Bool) := (monticuleref06_small.f a0).bind fun t141 => (if t141 = true then (some true) else (if a0 ≥ 65 then (some (decide (a0 ≤ 90))) else (some false)))
set_option maxHeartbeats 8000000 in
set_option maxRecDepth 100000 in
theorem monticuleref06_letter.calls (a0 : Int) (r : Bool) (w : World) (h : monticuleref06_letter.f a0 = some r) :
    Calls Tryd.prog 78 #[.int .u8 a0] w fun e w' => e = .returned (.bool r) ∧ Drawn0 w w' := by
  have H : ((monticuleref06_small.f a0).bind fun t141 => (if t141 = true then (some true) else (if a0 ≥ 65 then (some (decide (a0 ≤ 90))) else (some false)))) = some r := h
  clear h
  replace H := Option.bind_eq_some_iff.mp H
  obtain ⟨t141, A20, H⟩ := H
  replace H : (if t141 = true then (some true) else (if a0 ≥ 65 then (some (decide (a0 ≤ 90))) else (some false))) = some r := H
  have A2 := Aside0.mk A20
  clear A20
  by_cases c3 : t141 = true
  · subst c3
    have H1 : (some true) = some r := by rw [if_pos rfl] at H; exact H
    clear H
    have H := H1
    clear H1
    obtain rfl := Option.some.inj H
    go_enter Tryd.func78, Tryd.ntmps78
    go_wp2_with (first | ((with_reducible refine gate_callee (f := 66) rfl ?_); refine goesL_ (some 4) rfl rfl Tryd.func66 (by kernel_rfl) rfl #[.int .u8 a0] rfl (by (try simp only [List.map_toArray, List.map_cons, List.map_nil]); first | done | rfl | (simp only [List.length_drop, List.length_take]; rfl)) ?_; (with_reducible refine (monticuleref06_small.calls a0 true _ A2.out).mono ?_); rintro e w' ⟨rfl, ⟨nd, rfl⟩⟩; refine ⟨_, rfl, ?_⟩))
    go_ret
    exact ⟨by first | rfl | (simp; done) | (simp [*]; done), by repeat (first | exact Drawn0.refl _ | apply Drawn0.step)⟩
  · replace c3 := Bool.eq_false_iff.mpr c3
    subst c3
    have H1 : (if a0 ≥ 65 then (some (decide (a0 ≤ 90))) else (some false)) = some r := by rw [if_neg (show ¬ (false = true) by decide)] at H; exact H
    clear H
    have H := H1
    clear H1
    by_cases c4 : a0 ≥ 65
    · rw [if_pos c4] at H
      have c4b0 : decide (65 ≤ a0) = true := decide_eq_true c4
      clear c4
      obtain rfl := Option.some.inj H
      go_enter Tryd.func78, Tryd.ntmps78
      go_wp2_with (first | ((with_reducible refine gate_callee (f := 66) rfl ?_); refine goesL_ (some 4) rfl rfl Tryd.func66 (by kernel_rfl) rfl #[.int .u8 a0] rfl (by (try simp only [List.map_toArray, List.map_cons, List.map_nil]); first | done | rfl | (simp only [List.length_drop, List.length_take]; rfl)) ?_; (with_reducible refine (monticuleref06_small.calls a0 false _ A2.out).mono ?_); rintro e w' ⟨rfl, ⟨nd, rfl⟩⟩; refine ⟨_, rfl, ?_⟩))
      go_ret
      exact ⟨by first | rfl | (simp; done) | (simp [*]; done), by repeat (first | exact Drawn0.refl _ | apply Drawn0.step)⟩
    · rw [if_neg c4] at H
      have c4b0 : decide (65 ≤ a0) = false := decide_eq_false c4
      clear c4
      obtain rfl := Option.some.inj H
      go_enter Tryd.func78, Tryd.ntmps78
      go_wp2_with (first | ((with_reducible refine gate_callee (f := 66) rfl ?_); refine goesL_ (some 4) rfl rfl Tryd.func66 (by kernel_rfl) rfl #[.int .u8 a0] rfl (by (try simp only [List.map_toArray, List.map_cons, List.map_nil]); first | done | rfl | (simp only [List.length_drop, List.length_take]; rfl)) ?_; (with_reducible refine (monticuleref06_small.calls a0 false _ A2.out).mono ?_); rintro e w' ⟨rfl, ⟨nd, rfl⟩⟩; refine ⟨_, rfl, ?_⟩))
      go_ret
      exact ⟨by first | rfl | (simp; done) | (simp [*]; done), by repeat (first | exact Drawn0.refl _ | apply Drawn0.step)⟩

end Go.Proofs.YtoiaancehakiiaaDoor.Q
