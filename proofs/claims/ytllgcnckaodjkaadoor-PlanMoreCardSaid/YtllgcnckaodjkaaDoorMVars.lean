/- The walk of def.vars, by hand: are the names of variables right, and no two alike, and not too many? -/
import Derived.Test.YtllgcnckaodjkaaDoorPure1
namespace Go.Proofs.YtllgcnckaodjkaaDoor.Q
open Go.RowKit Go.Proofs.YtllgcnckaodjkaaDoor.Plain Go.Proofs.YtllgcnckaodjkaaDoorW.PrintWords

def varAt (l : List ByteArray) (i : Nat) : Bool := varN (l.getD i ByteArray.empty) && !memB (l.take i) (l.getD i ByteArray.empty)
def varsN (l : List ByteArray) : Bool := (List.range l.length).all (varAt l) && decide (l.length ≤ 20)
theorem varsN_all (l : List ByteArray) (h : ∀ i, i < l.length → varAt l i = true) : varsN l = decide (l.length ≤ 20) := by
  unfold varsN
  have : (List.range l.length).all (varAt l) = true := by
    rw [List.all_eq_true]
    exact fun i hi => h i (List.mem_range.1 hi)
  rw [this, Bool.true_and]
theorem varsN_bad (l : List ByteArray) (i : Nat) (hi : i < l.length) (h : varAt l i = false) : varsN l = false := by
  unfold varsN
  have : (List.range l.length).all (varAt l) = false := by
    rw [List.all_eq_false]
    exact ⟨i, List.mem_range.2 hi, by simp [h]⟩
  rw [this, Bool.false_and]

def def_vars.f (l0 : List ByteArray) : Option Bool := some (varsN l0)
set_option maxRecDepth 100000 in
theorem def_vars.calls (A0 : Option Addr) (c0 : Nat) (l0 : List ByteArray) (r : Bool) (w : World) (hr0 : Kd.C Kd.string w A0 l0.length l0) (hc0 : l0.length ≤ c0) (h : def_vars.f l0 = some r) :
    Calls Tryd.prog 67 #[.slice A0 l0.length c0] w fun e w' => e = .returned (.bool r) ∧ Below w.heap.size w w' := by
  obtain rfl := Option.some.inj h
  clear h
  have HR := Lib.hid hr0
  have hn := hr0.2.1
  clear hr0
  go_enter Tryd.func67, Tryd.ntmps67
  go_wp2
  go_loopw [7] (fun v wr => ∃ k : Nat, k ≤ l0.length ∧ v = .int .i64 k ∧ Below w.heap.size w wr ∧ Hid (∀ i, i < k → varAt l0 i = true)) (fun v _ => l0.length - (intOf v).toNat)
  case atStart => exact ⟨0, Nat.zero_le _, rfl, Below.refl _ _, Lib.hid (fun i hi => absurd hi (Nat.not_lt_zero _))⟩
  case round =>
    obtain ⟨k, hk, rfl, hbw, hok⟩ := hrel
    by_cases hlt : k < l0.length
    · obtain ⟨ad, rfl, hc⟩ := Kd_string_at (Kd.C_below HR.out hbw) k hlt
      have HA : Hid (varAt l0 k = (varN (l0.getD k ByteArray.empty) && !memB (l0.take k) (l0.getD k ByteArray.empty))) := Lib.hid rfl
      have hlen : (l0.take k).length = k := by rw [List.length_take]; omega
      have HL := Lib.hid hlen
      clear hlen
      generalize l0.getD k ByteArray.empty = x at hc HA
      have hvar := Lib.hid (fun W => name_Var.calls 6 x (varN x) W (var_ok 6 x (by decide)))
      have hcont : Hid (∀ W, Kd.C Kd.string W (some ad) (l0.take k).length (l0.take k) → Calls Tryd.prog 27 #[.slice (some ad) k c0, .string x] W fun e w' => e = .returned (.bool (memB (l0.take k) x)) ∧ Drawn0 W w') := Lib.hid (fun W hC => by
        have := slices_Contains_string_string.calls (k + 1) (some ad) c0 (l0.take k) x (memB (l0.take k) x) W hC (by rw [HL.out]; omega) (contains_ok (k + 1) _ x (by rw [HL.out]; omega) (by rw [HL.out]; omega))
        rw [HL.out] at this
        exact this)
      cases hv : varN x
      · have HF : Hid (varsN l0 = false) := Lib.hid (varsN_bad l0 k hlt (by rw [HA.out, hv]; rfl))
        have HV := Lib.hid hv
        clear hv
        go_wp2_with (go_at_call 73; refine (hvar.out _).mono ?_; rw [HV.out]; rintro e1 w1 ⟨rfl, hb1⟩)
        go_ret
        exact ⟨by rw [HF.out]; rfl, below_then hbw hbw.size hb1⟩
      · cases hm : memB (l0.take k) x
        · have HV := Lib.hid hv
          have HM := Lib.hid hm
          have hok2 : Hid (∀ i, i < k + 1 → varAt l0 i = true) := Lib.hid (fun i hi => by
            by_cases e : i = k
            · subst e; rw [HA.out, hv, hm]; rfl
            · exact hok.out i (by omega))
          clear hv hm
          go_wp2_with (first | (go_at_call 73; refine (hvar.out _).mono ?_; rw [HV.out]; rintro e1 w1 ⟨rfl, hb1⟩) | (go_at_call 27; refine (hcont.out _ (Kd.C_take (m := k) (Kd.C_below (Kd.C_below HR.out hbw) hb1) (by omega))).mono ?_; rw [HM.out]; rintro e2 w2 ⟨rfl, hd2⟩; have hd2 := Lib.hid hd2))
          go_roundw
          case rel => exact ⟨k + 1, by omega, by go_num, below_then hbw hbw.size (below_then hb1 hb1.size hd2.out.below), hok2⟩
          case measure => simp [intOf]; omega
        · have HF : Hid (varsN l0 = false) := Lib.hid (varsN_bad l0 k hlt (by rw [HA.out, hv, hm]; rfl))
          have HV := Lib.hid hv
          have HM := Lib.hid hm
          clear hv hm
          go_wp2_with (first | (go_at_call 73; refine (hvar.out _).mono ?_; rw [HV.out]; rintro e1 w1 ⟨rfl, hb1⟩) | (go_at_call 27; refine (hcont.out _ (Kd.C_take (m := k) (Kd.C_below (Kd.C_below HR.out hbw) hb1) (by omega))).mono ?_; rw [HM.out]; rintro e2 w2 ⟨rfl, hd2⟩; have hd2 := Lib.hid hd2))
          go_ret
          exact ⟨by rw [HF.out]; rfl, below_then hbw hbw.size (below_then hb1 hb1.size hd2.out.below)⟩
    · obtain rfl : k = l0.length := by omega
      have HF : Hid (varsN l0 = decide (l0.length ≤ 20)) := Lib.hid (varsN_all l0 hok.out)
      go_wp2
      go_ret
      exact ⟨by rw [HF.out]; simp; try omega, hbw⟩
end Go.Proofs.YtllgcnckaodjkaaDoor.Q
