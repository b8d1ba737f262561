/- The walk of the reference's Keywords, by hand: for every string shorter than 2^43 bytes. -/
import Derived.Test.YtoiaancehakiiaaDoorPure2
import Derived.Test.YtoiaancehakiiaaDoorMTexts
namespace Go.Proofs.YtoiaancehakiiaaDoor.Q
open Go.RowKit Go.Proofs.YtoiaancehakiiaaDoor.Plain Go.Proofs.YtoiaancehakiiaaDoorW.PrintWords

def kwGo (s : ByteArray) : Nat → Nat → Nat → List ByteArray → List ByteArray
  | 0, f, _, out => if f = s.size ∧ out.length ≤ 10 then out else []
  | d + 1, f, i, out => if s.data.toList.getD i 0 ≠ 58 then kwGo s d f (i + 1) out else if isLower (s.extract f i).data.toList = true then kwGo s d (i + 1) (i + 1) (out ++ [s.extract f (i + 1)]) else []
def kwR (s : ByteArray) : List ByteArray := kwGo s s.size 0 0 []
def monticuleref06_Keywords.f (a0 : ByteArray) : Option (List ByteArray) := if a0.size < 8796093022208 then some (kwR a0) else none

def KwRel (w : World) (s : ByteArray) (fin : List ByteArray) (v3 v4 v5 : Value) (wr : World) : Prop :=
  ∃ (i f : Nat) (out : List ByteArray), i ≤ s.size ∧ f ≤ i ∧ out.length ≤ i ∧ v5 = .int .i64 i ∧ v4 = .int .i64 f ∧ Kd.R Kd.string 9 wr w.heap.size (fun _ => True) v3 out ∧ Below w.heap.size w wr ∧ Hid (kwGo s (s.size - i) f i out = fin)
def KwsPost (w : World) (r : List ByteArray) (e : Ending) (w' : World) : Prop := ∃ v0_ : Value, e = .returned (v0_) ∧ Kd.R Kd.string 9 w' w.heap.size (fun _ => True) v0_ r ∧ Below w.heap.size w w'
theorem kws_nil {w w' : World} (hb : Below w.heap.size w w') : KwsPost w [] (.returned (.slice none 0 0)) w' := ⟨_, rfl, Kd.R_nil _ _ _ _ _, hb⟩

set_option maxRecDepth 100000 in
set_option maxHeartbeats 1000000 in
theorem monticuleref06_Keywords.calls (a0 : ByteArray) (r : List ByteArray) (w : World) (h : monticuleref06_Keywords.f a0 = some r) :
    Calls Tryd.prog 67 #[.string a0] w fun e w' => ∃ v0_ : Value, e = .returned (v0_) ∧ Kd.R Kd.string 9 w' w.heap.size (fun _ => True) v0_ r ∧ Below w.heap.size w w' := by
  show Calls Tryd.prog 67 #[.string a0] w (KwsPost w r)
  unfold monticuleref06_Keywords.f at h
  split at h
  case isFalse => cases h
  rename_i hs
  have h := Option.some.inj h
  have HFIN := Lib.hid h
  clear h
  go_enter Tryd.func67, Tryd.ntmps67
  go_wp2
  go_loopw [3, 4, 5] (fun v3 v4 v5 wr => KwRel w a0 r v3 v4 v5 wr) (fun _ _ v5 _ => a0.size - (intOf v5).toNat)
  case atStart => exact ⟨0, 0, [], Nat.zero_le _, Nat.le_refl _, Nat.le_refl _, rfl, rfl, Kd.R_nil _ _ _ _ _, Below.refl _ _, HFIN⟩
  case round =>
    obtain ⟨i, f, out, hi, hf, hout, rfl, rfl, hO, hbw, HG⟩ := hrel
    have HO := Lib.hid hO
    have hbs := hbw.size
    clear hO
    by_cases hlt : i < a0.size
    · have hG := HG.out
      rw [show a0.size - i = (a0.size - (i + 1)) + 1 from by omega] at hG
      unfold kwGo at hG
      rw [getD_at a0 i hlt] at hG
      have hc8 := (a0[i]'hlt).toNat_lt
      by_cases hc : (a0[i]'hlt) = 58
      · rw [if_neg (by simp [hc])] at hG
        have hcb : (((a0[i]'hlt).toNat : Int) == 58) = true := by rw [hc]; rfl
        have hcb2 : (((a0[i]'hlt).toNat : Int) != 58) = false := by rw [hc]; rfl
        have hps : (a0.extract f i).size = i - f := by rw [ByteArray.size_extract]; omega
        have HPS := Lib.hid hps
        cases hn : isName (a0.extract f i).data.toList
        · rw [if_neg (by unfold isLower; rw [hn]; simp)] at hG
          have his := Lib.hid (fun W => monticuleref06_Is.calls 43 (a0.extract f i) false W (by rw [ris_ok 43 _ (by decide), hn]))
          have HG2 := Lib.hid hG
          clear hG hn hps hc
          go_wp2_with (go_at_call 65; refine (his.out _).mono ?_; rintro e1 w1 ⟨rfl, hd1⟩; have hd1 := Lib.hid hd1)
          go_ret
          rw [← HG2.out]
          exact kws_nil (below_then hbw hbs hd1.out.below)
        · have hpos := isName_pos _ hn
          have hp0 : (0 : Int) < ((a0.extract f i).size : Int) := by omega
          have q12 : (0 < (a0.extract f i).size) = True := eq_true hpos
          have qi12 : (0 < ((a0.extract f i).size : Int)) = True := eq_true hp0
          have hx12 : ∀ h : 0 < (a0.extract f i).size, (((a0.extract f i)[0]'h).toNat : Int) = bt (a0.extract f i) 0 := bt_at (a0.extract f i) 0
          have hbt : bt (a0.extract f i) 0 = (((a0.extract f i)[0]'hpos).toNat : Int) := (hx12 hpos).symm
          have hfi1 : (f : Int) ≤ (i : Int) + 1 := by omega
          have hfi2 : (i : Int) + 1 ≤ (a0.size : Int) := by omega
          have his := Lib.hid (fun W => monticuleref06_Is.calls 43 (a0.extract f i) true W (by rw [ris_ok 43 _ (by decide), hn]))
          have hll : isLower (a0.extract f i).data.toList = smallB ((a0.extract f i)[0]'hpos) := by
            unfold isLower
            rw [hn, Bool.true_and, getD_at _ 0 hpos]
          rw [hll] at hG
          cases hsl : smallB ((a0.extract f i)[0]'hpos)
          · rw [hsl, if_neg (by simp)] at hG
            have hsm := Lib.hid (fun W => monticuleref06_small.calls (bt (a0.extract f i) 0) false W (by rw [hbt, rsmall_f, hsl]))
            have HG2 := Lib.hid hG
            clear hG hn hps hc hll hsl hbt hpos hp0
            go_wp2_with (first | (go_at_call 65; refine (his.out _).mono ?_; rintro e1 w1 ⟨rfl, hd1⟩; have hd1 := Lib.hid hd1; generalize a0.extract f i = p at *) | (go_at_call 66; refine (hsm.out _).mono ?_; rintro e2 w2 ⟨rfl, hd2⟩; have hb2 := Lib.hid (below_then hbw hbs (below_step hd1.out.below hd2.below)); have hO2 := Lib.hid (Kd.R_below HO.out (below_step hd1.out.below hd2.below)); have hbs2 := hb2.out.size; clear hd2))
            go_ret
            rw [← HG2.out]
            exact kws_nil hb2.out
          · rw [hsl, if_pos rfl] at hG
            have hsm := Lib.hid (fun W => monticuleref06_small.calls (bt (a0.extract f i) 0) true W (by rw [hbt, rsmall_f, hsl]))
            have HG2 := Lib.hid hG
            clear hG hn hps hc hll hsl hbt hpos hp0
            go_wp2_with (first | (go_at_call 65; refine (his.out _).mono ?_; rintro e1 w1 ⟨rfl, hd1⟩; have hd1 := Lib.hid hd1; generalize a0.extract f i = p at *) | (go_at_call 66; refine (hsm.out _).mono ?_; rintro e2 w2 ⟨rfl, hd2⟩; have hb2 := Lib.hid (below_then hbw hbs (below_step hd1.out.below hd2.below)); have hO2 := Lib.hid (Kd.R_below HO.out (below_step hd1.out.below hd2.below)); have hbs2 := hb2.out.size; clear hd2) | (at_builtin; refine Kd.R_append Kd.string (w0 := w) w.heap.size rfl (.tmp 30) (.tmp 36) 29 9 (.string ⟨#[]⟩) 16 rfl Tryd.underlying29 infoStr rfl (by decide) (by omega) _ out (a0.extract f (i + 1)) [.string (a0.extract f (i + 1))] (fun _ => True) (fun _ => False) rfl rfl ?aP (fun _ hk => hk.elim) ?aF ?aO ?aB ?aS ?aL ?_; (case aP => exact rfl); (case aF => exact (fun _ _ => trivial)); (case aO => exact hO2.out); (case aB => exact hb2.out); (case aS => exact hbs2); (case aL => omega); intro v3 w3 hO3 hb3 hg3 hat3; have hO3 := Lib.hid hO3; have hb3 := Lib.hid hb3; clear hg3 hat3))
            go_roundw
            case rel => exact ⟨i + 1, i + 1, out ++ [a0.extract f (i + 1)], by omega, Nat.le_refl _, by rw [List.length_append]; simp; omega, by go_num, by go_num, hO3.out, hb3.out, HG2⟩
            case measure => simp [intOf]; omega
      · rw [if_pos hc] at hG
        have hcb : (((a0[i]'hlt).toNat : Int) == 58) = false := by
          rw [beq_eq_false_iff_ne]
          intro e
          apply hc
          apply UInt8.toNat_inj.1
          rw [show (58 : UInt8).toNat = 58 from rfl]
          omega
        have hcb2 : (((a0[i]'hlt).toNat : Int) != 58) = true := by rw [bne, hcb]; rfl
        have HG2 := Lib.hid hG
        clear hG hc
        go_wp2
        go_roundw
        case rel => exact ⟨i + 1, f, out, by omega, by omega, by omega, by go_num, rfl, HO.out, hbw, HG2⟩
        case measure => simp [intOf]; omega
    · obtain rfl : i = a0.size := by omega
      have hG := HG.out
      rw [Nat.sub_self] at hG
      unfold kwGo at hG
      by_cases hfe : f = a0.size
      · by_cases h10 : out.length ≤ 10
        · rw [if_pos ⟨hfe, h10⟩] at hG
          subst hG
          obtain rfl := hfe
          obtain ⟨Av, cv, rfl, hcv, hCv⟩ := Kd.R_reads HO.out
          have h10b : ¬ ((10 : Int) < out.length) := by omega
          clear hcv hCv
          go_wp2
          go_ret
          exact ⟨_, rfl, HO.out, hbw⟩
        · rw [if_neg (fun h => h10 h.2)] at hG
          subst hG
          obtain rfl := hfe
          obtain ⟨Av, cv, rfl, hcv, hCv⟩ := Kd.R_reads HO.out
          have h10b : ((10 : Int) < out.length) := by omega
          clear hcv hCv
          go_wp2
          go_ret
          exact kws_nil hbw
      · rw [if_neg (fun h => hfe h.1)] at hG
        subst hG
        have hfb : ((f : Int) == a0.size) = false := by rw [beq_eq_false_iff_ne]; omega
        have hfb2 : ((f : Int) != a0.size) = true := by rw [bne_iff_ne]; omega
        clear hfe
        go_wp2
        go_ret
        exact kws_nil hbw
end Go.Proofs.YtoiaancehakiiaaDoor.Q
