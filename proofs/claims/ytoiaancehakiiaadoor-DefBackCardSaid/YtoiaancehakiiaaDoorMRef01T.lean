/- The walk of the reference's reader's Texts (monticuleref01.Reader.Texts), by hand. -/
import Derived.Test.YtoiaancehakiiaaDoorMRef01
import Derived.Test.YtoiaancehakiiaaDoorMTexts
namespace Go.Proofs.YtoiaancehakiiaaDoor.Q
open Go.RowKit Go.Proofs.YtoiaancehakiiaaDoor.Plain Go.Proofs.YtoiaancehakiiaaDoorW.PrintWords

theorem rdText_size (B : ByteArray) (e : Int) : (rdText B e).2.1.size ≤ B.size := by
  unfold rdText
  split
  · exact Nat.le_refl _
  split
  · exact Nat.le_refl _
  · have := (rdNum_nonneg B e).2.2
    simp only [cutB_size]
    omega
def LoopRel2 (w : World) (g : Nat) (B : ByteArray) (e : Int) (n : Nat) (fin : List ByteArray × ByteArray × Int) (v5 v6 : Value) (wr : World) : Prop :=
  ∃ (k : Nat) (acc : List ByteArray) (B' : ByteArray) (e' : Int), k ≤ n ∧ acc.length ≤ k ∧ v6 = .int .i64 k ∧ Kd.R Kd.string 9 wr (w.heap.size + 1) (fun _ => True) v5 acc ∧ Mr wr w.heap.size B' e' ∧ Mr wr g B e ∧ Fr (fun _ => False) w wr ∧ B'.size ≤ 9223372036854775807 ∧ (e' = 0 → n ≤ 1000000) ∧ (if e' = 0 then rdLoop (n - k) B' acc else (acc, B', e')) = fin ∧ w.heap.size + 1 ≤ wr.heap.size
def MTextsPost (w : World) (g : Nat) (l : List ByteArray) (B : ByteArray) (x : Int) (e : Ending) (w' : World) : Prop :=
  ∃ A c, e = .returned (.slice A l.length c) ∧ l.length ≤ c ∧ Kd.string.C w' A l.length l ∧ (∀ ad, A = some ad → w.heap.size ≤ ad.block) ∧ Mr w' g B x ∧ Fr (fun k => k = g) w w'
theorem mtexts_nil {w w' : World} {g : Nat} {B : ByteArray} {x : Int} (hR : Mr w' g B x) (hF : Fr (fun k => k = g) w w') : MTextsPost w g [] B x (.returned (.slice none 0 0)) w' :=
  ⟨none, 0, rfl, Nat.le_refl _, Kd.C_nil Kd.string w', (fun _ h => nomatch h), hR, hF⟩

set_option maxRecDepth 100000 in
set_option maxHeartbeats 1000000 in
theorem mtexts_calls (g : Nat) (B : ByteArray) (e : Int) (w : World) (h : Mr w g B e) (hs : B.size ≤ 9223372036854775807) :
    Calls Tryd.prog 36 #[.pointer (some ⟨g, 0, none⟩)] w (MTextsPost w g (rdTexts B e).1 (rdTexts B e).2.1 (rdTexts B e).2.2) := by
  have H := Lib.hid h
  obtain ⟨h0, h1, z0, z1, hg⟩ := h.facts
  have hnn := rdNum_nonneg B e
  obtain ⟨m, hm⟩ := Int.eq_ofNat_of_zero_le hnn.1
  by_cases he : (rdNum B e).2.2 = 0
  · by_cases hbig : 1000000 < (rdNum B e).1 ∨ ((rdNum B e).2.1.size : Int) < (rdNum B e).1
    · obtain ⟨fin, hfin⟩ : ∃ fin, (if (10 : Int) = 0 then rdLoop m (rdNum B e).2.1 [] else ([], (rdNum B e).2.1, (10 : Int))) = fin := ⟨_, rfl⟩
      have ht : rdTexts B e = rdTexts2 B fin := by rw [← hfin, rdTexts, if_neg (by simp [he]), if_pos hbig]; rfl
      rw [ht]
      rw [hm] at hbig
      have HN : Hid (rdNum B e = ((m : Int), (rdNum B e).2.1, 0)) := Lib.hid (by rw [← hm, ← he])
      obtain rfl := rdNum_zero he
      generalize (rdNum B 0).2.1 = B1 at HN hbig hnn hfin
      rw [hm] at hnn
      have HFIN := Lib.hid hfin
      clear ht hm he h hfin
      by_cases hbig1 : 1000000 < m
      · have hb1i : (1000000 : Int) < (m : Int) := by omega
        clear hbig hbig1
        go_enter Tryd.func36, Tryd.ntmps36
        go_wp2
        go_region
        have hq0 : Mr (w.alloc (.cells #[.string B, .int .i64 0] 28)).drew w.heap.size B 0 := heap_alloc_new w _
        have hFW := Lib.hid (((Fr.refl (fun _ => False) w).alloc (.cells #[.string B, .int .i64 0] 28)).drew)
        have hMW := Lib.hid (show Mr (w.alloc (.cells #[.string B, .int .i64 0] 28)).drew g B 0 from blk_alloc H.out _)
        clear h0 h1 z0 z1
        go_wp2_with (go_at_call 34; refine (mnum_calls w.heap.size B 0 _ hq0 hs).mono ?_; rw [HN.out]; rintro e2 w1 ⟨rfl, hq1, hF1⟩; have HF := Lib.hid (hFW.out.trans hF1 (fun k hk => .inr (by omega))); have HM := Lib.hid (hMW.out.fr hF1 (by omega)); have HQ := Lib.hid hq1; obtain ⟨q0, q1, y0, y1, hqs⟩ := hq1.facts; clear hq1 hF1)
        go_loopw [5, 6] (fun v5 v6 wr => LoopRel2 w g B 0 m fin v5 v6 wr) (fun _ v6 _ => m - (intOf v6).toNat)
        case atStart => exact ⟨0, [], B1, 10, Nat.zero_le _, Nat.le_refl _, rfl, Kd.R_nil _ _ _ _ _, HQ.out.setE 10, HM.out.fr (Fr.set_ (S := fun k => k = w.heap.size) w1 ⟨w.heap.size, 1, none⟩ (.int .i64 10) rfl) (by omega), HF.out.trans (Fr.set_ (S := fun k => k = w.heap.size) w1 ⟨w.heap.size, 1, none⟩ (.int .i64 10) rfl) (fun k hk => .inr (by omega)), by omega, fun h => absurd h (by decide), HFIN.out, by simp; omega⟩
        case round =>
          obtain ⟨k, acc, B', e', hk, hacc, rfl, hO, hRd, hMg, hFr, hsz, hm1, hfin, hge⟩ := hrel
          have HM2 := Lib.hid hm1
          have HO := Lib.hid hO
          have HFr := Lib.hid hFr
          have HMg := Lib.hid hMg
          have HRd := Lib.hid hRd
          obtain ⟨r0, r1, z0, z1, hqs2⟩ := hRd.facts
          obtain ⟨m0, m1, x0, x1, hgs2⟩ := hMg.facts
          clear hm1
          by_cases he' : e' = 0
          · subst he'
            rw [if_pos rfl] at hfin
            have HFI := Lib.hid hfin
            by_cases hkm : k < m
            · have hkb : decide (k < m) = true := decide_eq_true hkm
              have hm2 := HM2.out rfl
              exact absurd hm2 (by omega)
            · have hkb : decide (k < m) = false := decide_eq_false hkm
              have hfin2 : rdTexts2 B fin = (acc, B', 0) := by
                have h1 := HFI.out
                rw [show m - k = 0 from by omega] at h1
                rw [← h1]
                rfl
              have HF2 := Lib.hid hfin2
              obtain ⟨Av, cv, rfl, hcv, hCv⟩ := Kd.R_reads HO.out
              have HP := Lib.hid (show MTextsPost w g acc B' 0 (.returned (.slice Av acc.length cv)) (wr.setCell ⟨g, 0, none⟩ (.string B')) from ⟨Av, cv, rfl, hcv, (Fr.set_ (S := fun k => k = g) wr ⟨g, 0, none⟩ (.string B') rfl).string hCv (fun ad ha _ => by have := Kd.R_base HO.out ad.block (by subst ha; rfl); omega), fun ad ha => Nat.le_of_succ_le (Kd.R_base HO.out ad.block (by subst ha; rfl)), HMg.out.setB B', (HFr.out.mono (fun _ h => h.elim)).setCell _ _ rfl⟩)
              clear hfin hO hFr hRd hMg hfin2 hcv hCv
              go_wp2
              go_ret
              rw [HF2.out]
              exact HP.out
          · rw [if_neg he'] at hfin
            have hfin2 : rdTexts2 B fin = ([], B, e') := by
              rw [← hfin, rdTexts2, if_pos he']
            have HF2 := Lib.hid hfin2
            have he1' : (e' == 0) = false := beq_eq_false_iff_ne.2 he'
            have he2' : (e' != 0) = true := bne_iff_ne.2 he'
            clear hfin hO hFr hfin2 he' hRd hMg
            by_cases hkm : k < m
            · have hkb : decide (k < m) = true := decide_eq_true hkm
              go_wp2
              go_ret
              rw [HF2.out]
              exact mtexts_nil (HMg.out.setE e') ((HFr.out.mono (fun _ h => h.elim)).setCell _ _ rfl)
            · have hkb : decide (k < m) = false := decide_eq_false hkm
              go_wp2
              go_ret
              rw [HF2.out]
              exact mtexts_nil (HMg.out.setE e') ((HFr.out.mono (fun _ h => h.elim)).setCell _ _ rfl)
      · have hb1i : ¬ (1000000 : Int) < (m : Int) := by omega
        have hb2 : decide (B1.size < m) = true := decide_eq_true (by omega)
        clear hbig hbig1
        go_enter Tryd.func36, Tryd.ntmps36
        go_wp2
        go_region
        have hq0 : Mr (w.alloc (.cells #[.string B, .int .i64 0] 28)).drew w.heap.size B 0 := heap_alloc_new w _
        have hFW := Lib.hid (((Fr.refl (fun _ => False) w).alloc (.cells #[.string B, .int .i64 0] 28)).drew)
        have hMW := Lib.hid (show Mr (w.alloc (.cells #[.string B, .int .i64 0] 28)).drew g B 0 from blk_alloc H.out _)
        clear h0 h1 z0 z1
        go_wp2_with (go_at_call 34; refine (mnum_calls w.heap.size B 0 _ hq0 hs).mono ?_; rw [HN.out]; rintro e2 w1 ⟨rfl, hq1, hF1⟩; have HF := Lib.hid (hFW.out.trans hF1 (fun k hk => .inr (by omega))); have HM := Lib.hid (hMW.out.fr hF1 (by omega)); have HQ := Lib.hid hq1; obtain ⟨q0, q1, y0, y1, hqs⟩ := hq1.facts; clear hq1 hF1)
        go_loopw [5, 6] (fun v5 v6 wr => LoopRel2 w g B 0 m fin v5 v6 wr) (fun _ v6 _ => m - (intOf v6).toNat)
        case atStart => exact ⟨0, [], B1, 10, Nat.zero_le _, Nat.le_refl _, rfl, Kd.R_nil _ _ _ _ _, HQ.out.setE 10, HM.out.fr (Fr.set_ (S := fun k => k = w.heap.size) w1 ⟨w.heap.size, 1, none⟩ (.int .i64 10) rfl) (by omega), HF.out.trans (Fr.set_ (S := fun k => k = w.heap.size) w1 ⟨w.heap.size, 1, none⟩ (.int .i64 10) rfl) (fun k hk => .inr (by omega)), by omega, fun h => absurd h (by decide), HFIN.out, by simp; omega⟩
        case round =>
          obtain ⟨k, acc, B', e', hk, hacc, rfl, hO, hRd, hMg, hFr, hsz, hm1, hfin, hge⟩ := hrel
          have HM2 := Lib.hid hm1
          have HO := Lib.hid hO
          have HFr := Lib.hid hFr
          have HMg := Lib.hid hMg
          have HRd := Lib.hid hRd
          obtain ⟨r0, r1, z0, z1, hqs2⟩ := hRd.facts
          obtain ⟨m0, m1, x0, x1, hgs2⟩ := hMg.facts
          clear hm1
          by_cases he' : e' = 0
          · subst he'
            rw [if_pos rfl] at hfin
            have HFI := Lib.hid hfin
            by_cases hkm : k < m
            · have hkb : decide (k < m) = true := decide_eq_true hkm
              have hm2 := HM2.out rfl
              have htx := Lib.hid (mtext_calls w.heap.size B' 0 wr HRd.out hsz)
              have hsz2 := rdText_size B' 0
              clear hfin hO hFr hRd hMg
              obtain ⟨xs, B2, x2, hq⟩ : ∃ xs B2 x2, rdText B' 0 = (xs, B2, x2) := ⟨_, _, _, rfl⟩
              rw [hq] at htx hsz2
              have hsz3 : B2.size ≤ 9223372036854775807 := Nat.le_trans hsz2 hsz
              have hnx : Hid ((if x2 = 0 then rdLoop (m - (k + 1)) B2 (acc ++ [xs]) else (acc ++ [xs], B2, x2)) = fin) := Lib.hid (by
                have h1 := HFI.out
                rw [show m - k = (m - (k + 1)) + 1 from by omega] at h1
                unfold rdLoop at h1
                rw [hq] at h1
                simp only at h1
                by_cases hz : x2 = 0
                · rw [if_neg (by simp [hz])] at h1
                  rw [if_pos hz]
                  exact h1
                · rw [if_pos hz] at h1
                  rw [if_neg hz]
                  exact h1)
              clear hq hsz2
              go_wp2_with (first | (go_at_call 35; refine htx.out.mono ?_; rintro e2 w2 ⟨rfl, hR2, hF2⟩; have hO2 := Lib.hid (Kd.R_grown1 HO.out rfl hF2.grown (fun e => by have := Kd.R_base HO.out w.heap.size e.symm; omega)); have hFr2 := Lib.hid (HFr.out.trans hF2 (fun k hk => .inr (by omega))); have hM2 := Lib.hid (HMg.out.fr hF2 (by omega)); have hR2 := Lib.hid hR2; have hs2 : w.heap.size + 1 ≤ w2.heap.size := Nat.le_trans hge hF2.size; clear hF2) | (at_builtin; refine Kd.R_append Kd.string (w0 := w2) (w.heap.size + 1) rfl (.tmp 42) (.tmp 44) 29 9 (.string ⟨#[]⟩) 16 rfl Tryd.underlying29 infoStr rfl (by decide) (by omega) _ acc xs [.string xs] (fun _ => True) (fun _ => False) rfl rfl ?aP (fun _ hk => hk.elim) ?aF ?aO ?aB ?aS ?aL ?_; (case aP => exact rfl); (case aF => exact (fun _ _ => trivial)); (case aO => exact hO2.out); (case aB => exact Below.refl _ _); (case aS => exact hs2); (case aL => omega); intro v3 w3 hO3 hb3 hg3 hat3; have hs3 := hb3.size; have hO3 := Lib.hid hO3; have hF3b := Lib.hid ((hFr2.out).trans (Fr.of_grown hg3) (fun q hq => .inr (by have := Kd.R_base hO2.out q hq; omega))); have hM3 := Lib.hid (hM2.out.fr (Fr.of_grown hg3) (fun hq => by have := Kd.R_base hO2.out _ hq; omega)); have hR3 := Lib.hid (hR2.out.fr (Fr.of_grown hg3) (fun hq => by have := Kd.R_base hO2.out _ hq; omega)); clear hg3 hat3 hb3))
              go_roundw
              case rel => exact ⟨k + 1, acc ++ [xs], B2, x2, by omega, by rw [List.length_append]; simp; omega, by go_num, hO3.out, hR3.out, hM3.out, hF3b.out, hsz3, fun _ => hm2, hnx.out, Nat.le_trans hs2 hs3⟩
              case measure => simp [intOf]; omega
            · have hkb : decide (k < m) = false := decide_eq_false hkm
              have hfin2 : rdTexts2 B fin = (acc, B', 0) := by
                have h1 := HFI.out
                rw [show m - k = 0 from by omega] at h1
                rw [← h1]
                rfl
              have HF2 := Lib.hid hfin2
              obtain ⟨Av, cv, rfl, hcv, hCv⟩ := Kd.R_reads HO.out
              have HP := Lib.hid (show MTextsPost w g acc B' 0 (.returned (.slice Av acc.length cv)) (wr.setCell ⟨g, 0, none⟩ (.string B')) from ⟨Av, cv, rfl, hcv, (Fr.set_ (S := fun k => k = g) wr ⟨g, 0, none⟩ (.string B') rfl).string hCv (fun ad ha _ => by have := Kd.R_base HO.out ad.block (by subst ha; rfl); omega), fun ad ha => Nat.le_of_succ_le (Kd.R_base HO.out ad.block (by subst ha; rfl)), HMg.out.setB B', (HFr.out.mono (fun _ h => h.elim)).setCell _ _ rfl⟩)
              clear hfin hO hFr hRd hMg hfin2 hcv hCv
              go_wp2
              go_ret
              rw [HF2.out]
              exact HP.out
          · rw [if_neg he'] at hfin
            have hfin2 : rdTexts2 B fin = ([], B, e') := by
              rw [← hfin, rdTexts2, if_pos he']
            have HF2 := Lib.hid hfin2
            have he1' : (e' == 0) = false := beq_eq_false_iff_ne.2 he'
            have he2' : (e' != 0) = true := bne_iff_ne.2 he'
            clear hfin hO hFr hfin2 he' hRd hMg
            by_cases hkm : k < m
            · have hkb : decide (k < m) = true := decide_eq_true hkm
              go_wp2
              go_ret
              rw [HF2.out]
              exact mtexts_nil (HMg.out.setE e') ((HFr.out.mono (fun _ h => h.elim)).setCell _ _ rfl)
            · have hkb : decide (k < m) = false := decide_eq_false hkm
              go_wp2
              go_ret
              rw [HF2.out]
              exact mtexts_nil (HMg.out.setE e') ((HFr.out.mono (fun _ h => h.elim)).setCell _ _ rfl)
    · obtain ⟨fin, hfin⟩ : ∃ fin, rdLoop m (rdNum B e).2.1 [] = fin := ⟨_, rfl⟩
      have ht : rdTexts B e = rdTexts2 B fin := by rw [← hfin, rdTexts, if_neg (by simp [he]), if_neg hbig, hm, Int.toNat_natCast]; rfl
      rw [ht]
      rw [hm] at hbig
      have HN : Hid (rdNum B e = ((m : Int), (rdNum B e).2.1, 0)) := Lib.hid (by rw [← hm, ← he])
      obtain rfl := rdNum_zero he
      generalize (rdNum B 0).2.1 = B1 at HN hbig hnn hfin
      rw [hm] at hnn
      have HFIN : Hid ((if (0 : Int) = 0 then rdLoop m B1 [] else ([], B1, (0 : Int))) = fin) := Lib.hid (by rw [if_pos rfl]; exact hfin)
      have hmm : m ≤ 1000000 := by omega
      have hb1i : ¬ (1000000 : Int) < (m : Int) := by omega
      have hb2 : decide (B1.size < m) = false := decide_eq_false (by omega)
      clear ht hm he hbig h hfin
      go_enter Tryd.func36, Tryd.ntmps36
      go_wp2
      go_region
      have hq0 : Mr (w.alloc (.cells #[.string B, .int .i64 0] 28)).drew w.heap.size B 0 := heap_alloc_new w _
      have hFW := Lib.hid (((Fr.refl (fun _ => False) w).alloc (.cells #[.string B, .int .i64 0] 28)).drew)
      have hMW := Lib.hid (show Mr (w.alloc (.cells #[.string B, .int .i64 0] 28)).drew g B 0 from blk_alloc H.out _)
      clear h0 h1 z0 z1
      go_wp2_with (go_at_call 34; refine (mnum_calls w.heap.size B 0 _ hq0 hs).mono ?_; rw [HN.out]; rintro e2 w1 ⟨rfl, hq1, hF1⟩; have HF := Lib.hid (hFW.out.trans hF1 (fun k hk => .inr (by omega))); have HM := Lib.hid (hMW.out.fr hF1 (by omega)); have HQ := Lib.hid hq1; obtain ⟨q0, q1, y0, y1, hqs⟩ := hq1.facts; clear hq1 hF1)
      go_loopw [5, 6] (fun v5 v6 wr => LoopRel2 w g B 0 m fin v5 v6 wr) (fun _ v6 _ => m - (intOf v6).toNat)
      case atStart => exact ⟨0, [], B1, 0, Nat.zero_le _, Nat.le_refl _, rfl, Kd.R_nil _ _ _ _ _, HQ.out, HM.out, HF.out, by omega, fun _ => hmm, (by rw [if_pos rfl]; have := HFIN.out; rw [if_pos trivial] at this; exact this), by omega⟩
      case round =>
        obtain ⟨k, acc, B', e', hk, hacc, rfl, hO, hRd, hMg, hFr, hsz, hm1, hfin, hge⟩ := hrel
        have HM2 := Lib.hid hm1
        have HO := Lib.hid hO
        have HFr := Lib.hid hFr
        have HMg := Lib.hid hMg
        have HRd := Lib.hid hRd
        obtain ⟨r0, r1, z0, z1, hqs2⟩ := hRd.facts
        obtain ⟨m0, m1, x0, x1, hgs2⟩ := hMg.facts
        clear hm1
        by_cases he' : e' = 0
        · subst he'
          rw [if_pos rfl] at hfin
          have HFI := Lib.hid hfin
          by_cases hkm : k < m
          · have hkb : decide (k < m) = true := decide_eq_true hkm
            have hm2 := HM2.out rfl
            have htx := Lib.hid (mtext_calls w.heap.size B' 0 wr HRd.out hsz)
            have hsz2 := rdText_size B' 0
            clear hfin hO hFr hRd hMg
            obtain ⟨xs, B2, x2, hq⟩ : ∃ xs B2 x2, rdText B' 0 = (xs, B2, x2) := ⟨_, _, _, rfl⟩
            rw [hq] at htx hsz2
            have hsz3 : B2.size ≤ 9223372036854775807 := Nat.le_trans hsz2 hsz
            have hnx : Hid ((if x2 = 0 then rdLoop (m - (k + 1)) B2 (acc ++ [xs]) else (acc ++ [xs], B2, x2)) = fin) := Lib.hid (by
              have h1 := HFI.out
              rw [show m - k = (m - (k + 1)) + 1 from by omega] at h1
              unfold rdLoop at h1
              rw [hq] at h1
              simp only at h1
              by_cases hz : x2 = 0
              · rw [if_neg (by simp [hz])] at h1
                rw [if_pos hz]
                exact h1
              · rw [if_pos hz] at h1
                rw [if_neg hz]
                exact h1)
            clear hq hsz2
            go_wp2_with (first | (go_at_call 35; refine htx.out.mono ?_; rintro e2 w2 ⟨rfl, hR2, hF2⟩; have hO2 := Lib.hid (Kd.R_grown1 HO.out rfl hF2.grown (fun e => by have := Kd.R_base HO.out w.heap.size e.symm; omega)); have hFr2 := Lib.hid (HFr.out.trans hF2 (fun k hk => .inr (by omega))); have hM2 := Lib.hid (HMg.out.fr hF2 (by omega)); have hR2 := Lib.hid hR2; have hs2 : w.heap.size + 1 ≤ w2.heap.size := Nat.le_trans hge hF2.size; clear hF2) | (at_builtin; refine Kd.R_append Kd.string (w0 := w2) (w.heap.size + 1) rfl (.tmp 42) (.tmp 44) 29 9 (.string ⟨#[]⟩) 16 rfl Tryd.underlying29 infoStr rfl (by decide) (by omega) _ acc xs [.string xs] (fun _ => True) (fun _ => False) rfl rfl ?aP (fun _ hk => hk.elim) ?aF ?aO ?aB ?aS ?aL ?_; (case aP => exact rfl); (case aF => exact (fun _ _ => trivial)); (case aO => exact hO2.out); (case aB => exact Below.refl _ _); (case aS => exact hs2); (case aL => omega); intro v3 w3 hO3 hb3 hg3 hat3; have hs3 := hb3.size; have hO3 := Lib.hid hO3; have hF3b := Lib.hid ((hFr2.out).trans (Fr.of_grown hg3) (fun q hq => .inr (by have := Kd.R_base hO2.out q hq; omega))); have hM3 := Lib.hid (hM2.out.fr (Fr.of_grown hg3) (fun hq => by have := Kd.R_base hO2.out _ hq; omega)); have hR3 := Lib.hid (hR2.out.fr (Fr.of_grown hg3) (fun hq => by have := Kd.R_base hO2.out _ hq; omega)); clear hg3 hat3 hb3))
            go_roundw
            case rel => exact ⟨k + 1, acc ++ [xs], B2, x2, by omega, by rw [List.length_append]; simp; omega, by go_num, hO3.out, hR3.out, hM3.out, hF3b.out, hsz3, fun _ => hm2, hnx.out, Nat.le_trans hs2 hs3⟩
            case measure => simp [intOf]; omega
          · have hkb : decide (k < m) = false := decide_eq_false hkm
            have hfin2 : rdTexts2 B fin = (acc, B', 0) := by
              have h1 := HFI.out
              rw [show m - k = 0 from by omega] at h1
              rw [← h1]
              rfl
            have HF2 := Lib.hid hfin2
            obtain ⟨Av, cv, rfl, hcv, hCv⟩ := Kd.R_reads HO.out
            have HP := Lib.hid (show MTextsPost w g acc B' 0 (.returned (.slice Av acc.length cv)) (wr.setCell ⟨g, 0, none⟩ (.string B')) from ⟨Av, cv, rfl, hcv, (Fr.set_ (S := fun k => k = g) wr ⟨g, 0, none⟩ (.string B') rfl).string hCv (fun ad ha _ => by have := Kd.R_base HO.out ad.block (by subst ha; rfl); omega), fun ad ha => Nat.le_of_succ_le (Kd.R_base HO.out ad.block (by subst ha; rfl)), HMg.out.setB B', (HFr.out.mono (fun _ h => h.elim)).setCell _ _ rfl⟩)
            clear hfin hO hFr hRd hMg hfin2 hcv hCv
            go_wp2
            go_ret
            rw [HF2.out]
            exact HP.out
        · rw [if_neg he'] at hfin
          have hfin2 : rdTexts2 B fin = ([], B, e') := by
            rw [← hfin, rdTexts2, if_pos he']
          have HF2 := Lib.hid hfin2
          have he1' : (e' == 0) = false := beq_eq_false_iff_ne.2 he'
          have he2' : (e' != 0) = true := bne_iff_ne.2 he'
          clear hfin hO hFr hfin2 he' hRd hMg
          by_cases hkm : k < m
          · have hkb : decide (k < m) = true := decide_eq_true hkm
            go_wp2
            go_ret
            rw [HF2.out]
            exact mtexts_nil (HMg.out.setE e') ((HFr.out.mono (fun _ h => h.elim)).setCell _ _ rfl)
          · have hkb : decide (k < m) = false := decide_eq_false hkm
            go_wp2
            go_ret
            rw [HF2.out]
            exact mtexts_nil (HMg.out.setE e') ((HFr.out.mono (fun _ h => h.elim)).setCell _ _ rfl)
  · obtain ⟨fin, hfin⟩ : ∃ fin, (if (rdNum B e).2.2 = 0 then rdLoop m B [] else ([], B, (rdNum B e).2.2)) = fin := ⟨_, rfl⟩
    have ht : rdTexts B e = rdTexts2 B fin := by rw [← hfin, rdTexts, if_pos he, if_neg he, rdTexts2, if_pos he]
    rw [ht]
    have HN : Hid (rdNum B e = ((m : Int), B, (rdNum B e).2.2)) := Lib.hid (Prod.ext hm (Prod.ext (rdNum_err he) rfl))
    rw [hm] at hnn
    generalize (rdNum B e).2.2 = x at he HN hfin hnn
    have HFIN := Lib.hid hfin
    have he1 : (x == 0) = false := beq_eq_false_iff_ne.2 he
    have he2 : (x != 0) = true := bne_iff_ne.2 he
    have HX : Hid (x ≠ 0) := Lib.hid he
    clear ht hm he hfin h
    go_enter Tryd.func36, Tryd.ntmps36
    go_wp2
    go_region
    have hq0 : Mr (w.alloc (.cells #[.string B, .int .i64 e] 28)).drew w.heap.size B e := heap_alloc_new w _
    have hFW := Lib.hid (((Fr.refl (fun _ => False) w).alloc (.cells #[.string B, .int .i64 e] 28)).drew)
    have hMW := Lib.hid (show Mr (w.alloc (.cells #[.string B, .int .i64 e] 28)).drew g B e from blk_alloc H.out _)
    clear h0 h1 z0 z1
    go_wp2_with (go_at_call 34; refine (mnum_calls w.heap.size B e _ hq0 hs).mono ?_; rw [HN.out]; rintro e2 w1 ⟨rfl, hq1, hF1⟩; have HF := Lib.hid (hFW.out.trans hF1 (fun k hk => .inr (by omega))); have HM := Lib.hid (hMW.out.fr hF1 (by omega)); have HQ := Lib.hid hq1; obtain ⟨q0, q1, y0, y1, hqs⟩ := hq1.facts; clear hq1 hF1)
    go_loop [5, 6] (fun v5 v6 => v5 = .slice none 0 0 ∧ v6 = .int .i64 0) (fun _ _ => 0)
    case atStart => exact ⟨rfl, rfl⟩
    case round =>
      obtain ⟨rfl, rfl⟩ := hrel
      obtain ⟨m0, m1, x0, x1, hgs2⟩ := HM.out.facts
      have HF2 : Hid (rdTexts2 B fin = ([], B, x)) := Lib.hid (by rw [← HFIN.out, if_neg HX.out, rdTexts2, if_pos HX.out])
      by_cases hkm : 0 < m
      · have hkb : decide (0 < m) = true := decide_eq_true hkm
        go_wp2
        go_ret
        rw [HF2.out]
        exact mtexts_nil (HM.out.setE x) ((HF.out.mono (fun _ h => h.elim)).setCell _ _ rfl)
      · have hkb : decide (0 < m) = false := decide_eq_false hkm
        go_wp2
        go_ret
        rw [HF2.out]
        exact mtexts_nil (HM.out.setE x) ((HF.out.mono (fun _ h => h.elim)).setCell _ _ rfl)
end Go.Proofs.YtoiaancehakiiaaDoor.Q
