/- The walk of octet.Reader.Texts, by hand: for every state of a reader. -/
import Derived.Test.YtoiaancehakiiaaDoorMReader
import Derived.Test.YtoiaancehakiiaaDoorWMore
namespace Go.Proofs.YtoiaancehakiiaaDoor.Q
open Go.RowKit Go.Proofs.YtoiaancehakiiaaDoor.Plain Go.Proofs.YtoiaancehakiiaaDoorW.PrintWords

theorem Fr.of_grown {w w1 : World} {row : Option Nat} (h : w.grownBy w1 row) : Fr (fun k => row = some k) w w1 := ⟨h.os, h.tape, h.output, h.size, fun i hi hn => h.block i hi (fun e => hn e.symm)⟩
theorem Fr.grown {w w1 : World} {g : Nat} (h : Fr (fun k => k = g) w w1) : w.grownBy w1 (some g) := ⟨h.os, h.tape, h.output, h.size, fun i hi hn => h.block i hi (fun e => hn (by rw [e]))⟩
theorem infoStr : (Tryd.prog.info? 9).map (fun i => (i.zero, i.size, i.bytes)) = some (some (.string ⟨#[]⟩), 1, 16) := by kernel_rfl

def LoopRel (w : World) (g n : Nat) (fin : List ByteArray × ByteArray × Int) (v5 v6 : Value) (wr : World) : Prop :=
  ∃ (k : Nat) (acc : List ByteArray) (B' : ByteArray) (e' : Int), k ≤ n ∧ acc.length ≤ k ∧ v6 = .int .i64 k ∧ Kd.R Kd.string 9 wr w.heap.size (fun _ => True) v5 acc ∧ Rd wr g B' e' ∧ Fr (fun k => k = g) w wr ∧ (e' = 0 → n ≤ 1000000) ∧ (if e' = 0 then rdLoop (n - k) B' acc else (acc, B', e')) = fin
def TextsPost (w : World) (g : Nat) (l : List ByteArray) (B : ByteArray) (x : Int) (e : Ending) (w' : World) : Prop :=
  ∃ A c, e = .returned (.slice A l.length c) ∧ l.length ≤ c ∧ Kd.string.C w' A l.length l ∧ (∀ ad, A = some ad → w.heap.size ≤ ad.block) ∧ Rd w' g B x ∧ Fr (fun k => k = g) w w'

theorem texts_nil {w w' : World} {g : Nat} {B : ByteArray} {x : Int} (hR : Rd w' g B x) (hF : Fr (fun k => k = g) w w') : TextsPost w g [] B x (.returned (.slice none 0 0)) w' :=
  ⟨none, 0, rfl, Nat.le_refl _, Kd.C_nil Kd.string w', (fun _ h => nomatch h), hR, hF⟩

/-- the loop and what is behind it: from any state of the loop on -/
def rdTexts2 (B : ByteArray) (q : List ByteArray × ByteArray × Int) : List ByteArray × ByteArray × Int := if q.2.2 ≠ 0 then ([], B, q.2.2) else q

theorem fail0_calls (g : Nat) (B : ByteArray) (x : Int) (w : World) (h : Rd w g B 0) :
    Calls Tryd.prog 57 #[.pointer (some ⟨g, 0, none⟩), .int .i64 x] w (RdPost w g (.tuple #[]) B x) := by
  have := fail_calls g B 0 x w h
  rw [if_pos rfl] at this
  exact this

set_option maxRecDepth 100000 in
set_option maxHeartbeats 1000000 in
theorem texts_calls (g : Nat) (B : ByteArray) (e : Int) (w : World) (h : Rd w g B e) :
    Calls Tryd.prog 32 #[.pointer (some ⟨g, 0, none⟩)] w (TextsPost w g (rdTexts B e).1 (rdTexts B e).2.1 (rdTexts B e).2.2) := by
  have hnum := num_calls g B e w h
  have hgw := h.lt
  have HSZ := h.size
  have hnn := rdNum_nonneg B e
  obtain ⟨A, c, hb, hc, hA, hC⟩ := h
  have h0 : w.cell? ⟨g, 0, none⟩ = some (.slice A B.size c) := (blk_cell hb 0).trans rfl
  have HC := Lib.hid hC
  have HA := Lib.hid hA
  clear hb hC hA
  obtain ⟨m, hm⟩ := Int.eq_ofNat_of_zero_le hnn.1
  rw [hm] at hnum
  by_cases he : (rdNum B e).2.2 = 0
  · rw [he] at hnum
    by_cases hbig : 1000000 < (rdNum B e).1 ∨ ((rdNum B e).2.1.size : Int) < (rdNum B e).1
    · obtain ⟨fin, hfin⟩ : ∃ fin, (if (10 : Int) = 0 then rdLoop m (rdNum B e).2.1 [] else ([], (rdNum B e).2.1, (10 : Int))) = fin := ⟨_, rfl⟩
      have ht : rdTexts B e = rdTexts2 B fin := by rw [← hfin, rdTexts, if_neg (by simp [he]), if_pos hbig]; rfl
      rw [ht]
      rw [hm] at hbig hnn
      generalize (rdNum B e).2.1 = B1 at hnum hbig hnn hfin
      have hnum := Lib.hid hnum
      have HFIN := Lib.hid hfin
      have HM1 : Hid ((10 : Int) = 0 → m ≤ 1000000) := Lib.hid (fun h => absurd h (by decide))
      clear ht hm he hfin
      by_cases hbig1 : 1000000 < m
      · have hb1i : (1000000 : Int) < (m : Int) := by omega
        clear hbig hbig1
        go_enter Tryd.func32, Tryd.ntmps32
        go_wp2_with (first | (go_at_call 27; refine hnum.out.mono ?_; intro e1 w1 hp; obtain ⟨A1, c1, rfl, hF, hR, h01, h11, hz1, hc1, hA1, hC1, hb1⟩ := hp.val; have hF := Lib.hid hF; have hR := Lib.hid hR; clear hc1 hA1 hC1 hb1 hp) | (go_at_call 57; refine (fail0_calls g B1 10 _ hR.out).mono ?_; intro e2 w2 hp2; obtain ⟨A2, c2, rfl, hF2, hR2, h02, h12, hz2, hc2, hA2, hC2, hb2⟩ := hp2.val; have hF3 := Lib.hid (hF.out.step hF2); have hR2 := Lib.hid hR2; clear hF2 hc2 hA2 hC2 hb2 hp2))
        go_loopw [5, 6] (fun v5 v6 wr => LoopRel w g m fin v5 v6 wr) (fun _ v6 _ => m - (intOf v6).toNat)
        case atStart => exact ⟨0, [], B1, 10, Nat.zero_le _, Nat.le_refl _, rfl, Kd.R_nil _ _ _ _ _, hR2.out, hF3.out, HM1.out, HFIN.out⟩
        case round =>
          obtain ⟨k, acc, B', e', hk, hacc, rfl, hO, hRd, hFr, hm1, hfin⟩ := hrel
          have HM2 := Lib.hid hm1
          clear hm1
          have HO := Lib.hid hO
          have HFr := Lib.hid hFr
          have hge := hFr.size
          obtain ⟨Ar, cr, hbr, hcr, hAr, hCr⟩ := hRd
          have hr0 : wr.cell? ⟨g, 0, none⟩ = some (.slice Ar B'.size cr) := (blk_cell hbr 0).trans rfl
          have hr1 : wr.cell? ⟨g, 1, none⟩ = some (.int .i64 e') := (blk_cell hbr 1).trans rfl
          have hrz := blk_frozen hbr 0
          have HRd := Lib.hid (show Rd wr g B' e' from ⟨Ar, cr, hbr, hcr, hAr, hCr⟩)
          by_cases he' : e' = 0
          · subst he'
            rw [if_pos rfl] at hfin
            have HFI := Lib.hid hfin
            by_cases hkm : k < m
            · have hkb : decide (k < m) = true := decide_eq_true hkm
              have hm2 := HM2.out rfl
              exact absurd hm2 (by omega)
            · have hkb : decide (k < m) = false := decide_eq_false hkm
              have hfin2 : rdTexts2 B fin = (acc, B', 0) := by
                have h1 := HFI.out
                rw [show m - k = 0 from by omega] at h1
                rw [← h1]
                rfl
              have HF2 := Lib.hid hfin2
              obtain ⟨Av, cv, rfl, hcv, hCv⟩ := Kd.R_reads HO.out
              have HP := Lib.hid (show TextsPost w g acc B' 0 (.returned (.slice Av acc.length cv)) wr from ⟨Av, cv, rfl, hcv, hCv, fun ad ha => Kd.R_base HO.out ad.block (by subst ha; rfl), HRd.out, HFr.out⟩)
              clear hfin hO hFr hbr hcr hAr hCr hfin2 hcv hCv
              go_wp2
              go_ret
              rw [HF2.out]
              exact HP.out
          · rw [if_neg he'] at hfin
            have hfin2 : rdTexts2 B fin = ([], B, e') := by
              rw [← hfin, rdTexts2, if_pos he']
            have HF2 := Lib.hid hfin2
            have he1' : (e' == 0) = false := beq_eq_false_iff_ne.2 he'
            have he2' : (e' != 0) = true := bne_iff_ne.2 he'
            have hN := Lib.hid (Rd.lay hbr hc HA.out (HFr.out.int HC.out (fun ad e _ hk => absurd (HA.out ad e) (by omega))))
            clear hfin hO hFr hbr hcr hAr hCr hfin2 he'
            by_cases hkm : k < m
            · have hkb : decide (k < m) = true := decide_eq_true hkm
              go_wp2
              go_ret
              rw [HF2.out]
              exact texts_nil hN.out (HFr.out.setCell _ _ rfl)
            · have hkb : decide (k < m) = false := decide_eq_false hkm
              go_wp2
              go_ret
              rw [HF2.out]
              exact texts_nil hN.out (HFr.out.setCell _ _ rfl)
      · have hb1i : ¬ (1000000 : Int) < (m : Int) := by omega
        have hb2 : decide (B1.size < m) = true := decide_eq_true (by omega)
        clear hbig hbig1
        go_enter Tryd.func32, Tryd.ntmps32
        go_wp2_with (first | (go_at_call 27; refine hnum.out.mono ?_; intro e1 w1 hp; obtain ⟨A1, c1, rfl, hF, hR, h01, h11, hz1, hc1, hA1, hC1, hb1⟩ := hp.val; have hF := Lib.hid hF; have hR := Lib.hid hR; clear hc1 hA1 hC1 hb1 hp) | (go_at_call 57; refine (fail0_calls g B1 10 _ hR.out).mono ?_; intro e2 w2 hp2; obtain ⟨A2, c2, rfl, hF2, hR2, h02, h12, hz2, hc2, hA2, hC2, hb2⟩ := hp2.val; have hF3 := Lib.hid (hF.out.step hF2); have hR2 := Lib.hid hR2; clear hF2 hc2 hA2 hC2 hb2 hp2))
        go_loopw [5, 6] (fun v5 v6 wr => LoopRel w g m fin v5 v6 wr) (fun _ v6 _ => m - (intOf v6).toNat)
        case atStart => exact ⟨0, [], B1, 10, Nat.zero_le _, Nat.le_refl _, rfl, Kd.R_nil _ _ _ _ _, hR2.out, hF3.out, HM1.out, HFIN.out⟩
        case round =>
          obtain ⟨k, acc, B', e', hk, hacc, rfl, hO, hRd, hFr, hm1, hfin⟩ := hrel
          have HM2 := Lib.hid hm1
          clear hm1
          have HO := Lib.hid hO
          have HFr := Lib.hid hFr
          have hge := hFr.size
          obtain ⟨Ar, cr, hbr, hcr, hAr, hCr⟩ := hRd
          have hr0 : wr.cell? ⟨g, 0, none⟩ = some (.slice Ar B'.size cr) := (blk_cell hbr 0).trans rfl
          have hr1 : wr.cell? ⟨g, 1, none⟩ = some (.int .i64 e') := (blk_cell hbr 1).trans rfl
          have hrz := blk_frozen hbr 0
          have HRd := Lib.hid (show Rd wr g B' e' from ⟨Ar, cr, hbr, hcr, hAr, hCr⟩)
          by_cases he' : e' = 0
          · subst he'
            rw [if_pos rfl] at hfin
            have HFI := Lib.hid hfin
            by_cases hkm : k < m
            · have hkb : decide (k < m) = true := decide_eq_true hkm
              have hm2 := HM2.out rfl
              have htx := Lib.hid (text_calls g B' 0 wr HRd.out)
              clear hfin hO hFr hbr hcr hAr hCr
              obtain ⟨xs, B2, x2, hq⟩ : ∃ xs B2 x2, rdText B' 0 = (xs, B2, x2) := ⟨_, _, _, rfl⟩
              rw [hq] at htx
              have hnx : Hid ((if x2 = 0 then rdLoop (m - (k + 1)) B2 (acc ++ [xs]) else (acc ++ [xs], B2, x2)) = fin) := Lib.hid (by
                have h1 := HFI.out
                rw [show m - k = (m - (k + 1)) + 1 from by omega] at h1
                unfold rdLoop at h1
                rw [hq] at h1
                simp only at h1
                by_cases hz : x2 = 0
                · rw [if_neg (by simp [hz])] at h1
                  rw [if_pos hz]
                  exact h1
                · rw [if_pos hz] at h1
                  rw [if_neg hz]
                  exact h1)
              clear hq
              go_wp2_with (first | (go_at_call 31; refine htx.out.mono ?_; rintro e2 w2 ⟨rfl, hR2, hF2⟩; have hO2 := Lib.hid (Kd.R_grown1 HO.out rfl hF2.grown (fun e => by have := Kd.R_base HO.out g e.symm; omega)); have hFr2 := Lib.hid (HFr.out.step hF2); have hR2 := Lib.hid hR2; have hs2 := Nat.le_trans hge hF2.size; clear hF2) | (at_builtin; refine Kd.R_append Kd.string (w0 := w2) w.heap.size rfl (.tmp 45) (.tmp 48) 29 9 (.string ⟨#[]⟩) 16 rfl Tryd.underlying29 infoStr rfl (by decide) (by omega) _ acc xs [.string xs] (fun _ => True) (fun _ => False) rfl rfl ?aP (fun _ hk => hk.elim) ?aF ?aO ?aB ?aS ?aL ?_; (case aP => exact rfl); (case aF => exact (fun _ _ => trivial)); (case aO => exact hO2.out); (case aB => exact Below.refl _ _); (case aS => exact hs2); (case aL => omega); intro v3 w3 hO3 hb3 hg3 hat3; have hs3 := hb3.size; have hO3 := Lib.hid hO3; have hF3b := Lib.hid ((hFr2.out).trans (Fr.of_grown hg3) (fun q hq => .inr (Kd.R_base hO2.out q hq))); have hR3 := Lib.hid (hR2.out.fr (Fr.of_grown hg3) (fun q hq => by have := Kd.R_base hO2.out q hq; omega)); clear hg3 hat3 hb3))
              go_roundw
              case rel => exact ⟨k + 1, acc ++ [xs], B2, x2, by omega, by rw [List.length_append]; simp; omega, by go_num, hO3.out, hR3.out, hF3b.out, fun _ => hm2, hnx.out⟩
              case measure => simp [intOf]; omega
            · have hkb : decide (k < m) = false := decide_eq_false hkm
              have hfin2 : rdTexts2 B fin = (acc, B', 0) := by
                have h1 := HFI.out
                rw [show m - k = 0 from by omega] at h1
                rw [← h1]
                rfl
              have HF2 := Lib.hid hfin2
              obtain ⟨Av, cv, rfl, hcv, hCv⟩ := Kd.R_reads HO.out
              have HP := Lib.hid (show TextsPost w g acc B' 0 (.returned (.slice Av acc.length cv)) wr from ⟨Av, cv, rfl, hcv, hCv, fun ad ha => Kd.R_base HO.out ad.block (by subst ha; rfl), HRd.out, HFr.out⟩)
              clear hfin hO hFr hbr hcr hAr hCr hfin2 hcv hCv
              go_wp2
              go_ret
              rw [HF2.out]
              exact HP.out
          · rw [if_neg he'] at hfin
            have hfin2 : rdTexts2 B fin = ([], B, e') := by
              rw [← hfin, rdTexts2, if_pos he']
            have HF2 := Lib.hid hfin2
            have he1' : (e' == 0) = false := beq_eq_false_iff_ne.2 he'
            have he2' : (e' != 0) = true := bne_iff_ne.2 he'
            have hN := Lib.hid (Rd.lay hbr hc HA.out (HFr.out.int HC.out (fun ad e _ hk => absurd (HA.out ad e) (by omega))))
            clear hfin hO hFr hbr hcr hAr hCr hfin2 he'
            by_cases hkm : k < m
            · have hkb : decide (k < m) = true := decide_eq_true hkm
              go_wp2
              go_ret
              rw [HF2.out]
              exact texts_nil hN.out (HFr.out.setCell _ _ rfl)
            · have hkb : decide (k < m) = false := decide_eq_false hkm
              go_wp2
              go_ret
              rw [HF2.out]
              exact texts_nil hN.out (HFr.out.setCell _ _ rfl)
    · obtain ⟨fin, hfin⟩ : ∃ fin, (if (0 : Int) = 0 then rdLoop m (rdNum B e).2.1 [] else ([], (rdNum B e).2.1, (0 : Int))) = fin := ⟨_, rfl⟩
      have ht : rdTexts B e = rdTexts2 B fin := by rw [← hfin, rdTexts, if_neg (by simp [he]), if_neg hbig, hm, Int.toNat_natCast, if_pos rfl]; rfl
      rw [ht]
      rw [hm] at hbig hnn
      generalize (rdNum B e).2.1 = B1 at hnum hbig hnn hfin
      have hnum := Lib.hid hnum
      have HFIN := Lib.hid hfin
      have HM1 : Hid ((0 : Int) = 0 → m ≤ 1000000) := Lib.hid (fun _ => by omega)
      have hb1i : ¬ (1000000 : Int) < (m : Int) := by omega
      have hb2 : decide (B1.size < m) = false := decide_eq_false (by omega)
      clear ht hm he hbig hfin
      go_enter Tryd.func32, Tryd.ntmps32
      go_wp2_with (go_at_call 27; refine hnum.out.mono ?_; intro e1 w1 hp; obtain ⟨A1, c1, rfl, hF, hR, h01, h11, hz1, hc1, hA1, hC1, hb1⟩ := hp.val; have hF := Lib.hid hF; have hR := Lib.hid hR; clear hc1 hA1 hC1 hb1 hp)
      go_loopw [5, 6] (fun v5 v6 wr => LoopRel w g m fin v5 v6 wr) (fun _ v6 _ => m - (intOf v6).toNat)
      case atStart => exact ⟨0, [], B1, 0, Nat.zero_le _, Nat.le_refl _, rfl, Kd.R_nil _ _ _ _ _, hR.out, hF.out, (fun _ => HM1.out trivial), HFIN.out⟩
      case round =>
        obtain ⟨k, acc, B', e', hk, hacc, rfl, hO, hRd, hFr, hm1, hfin⟩ := hrel
        have HM2 := Lib.hid hm1
        clear hm1
        have HO := Lib.hid hO
        have HFr := Lib.hid hFr
        have hge := hFr.size
        obtain ⟨Ar, cr, hbr, hcr, hAr, hCr⟩ := hRd
        have hr0 : wr.cell? ⟨g, 0, none⟩ = some (.slice Ar B'.size cr) := (blk_cell hbr 0).trans rfl
        have hr1 : wr.cell? ⟨g, 1, none⟩ = some (.int .i64 e') := (blk_cell hbr 1).trans rfl
        have hrz := blk_frozen hbr 0
        have HRd := Lib.hid (show Rd wr g B' e' from ⟨Ar, cr, hbr, hcr, hAr, hCr⟩)
        by_cases he' : e' = 0
        · subst he'
          rw [if_pos rfl] at hfin
          have HFI := Lib.hid hfin
          by_cases hkm : k < m
          · have hkb : decide (k < m) = true := decide_eq_true hkm
            have hm2 := HM2.out rfl
            have htx := Lib.hid (text_calls g B' 0 wr HRd.out)
            clear hfin hO hFr hbr hcr hAr hCr
            obtain ⟨xs, B2, x2, hq⟩ : ∃ xs B2 x2, rdText B' 0 = (xs, B2, x2) := ⟨_, _, _, rfl⟩
            rw [hq] at htx
            have hnx : Hid ((if x2 = 0 then rdLoop (m - (k + 1)) B2 (acc ++ [xs]) else (acc ++ [xs], B2, x2)) = fin) := Lib.hid (by
              have h1 := HFI.out
              rw [show m - k = (m - (k + 1)) + 1 from by omega] at h1
              unfold rdLoop at h1
              rw [hq] at h1
              simp only at h1
              by_cases hz : x2 = 0
              · rw [if_neg (by simp [hz])] at h1
                rw [if_pos hz]
                exact h1
              · rw [if_pos hz] at h1
                rw [if_neg hz]
                exact h1)
            clear hq
            go_wp2_with (first | (go_at_call 31; refine htx.out.mono ?_; rintro e2 w2 ⟨rfl, hR2, hF2⟩; have hO2 := Lib.hid (Kd.R_grown1 HO.out rfl hF2.grown (fun e => by have := Kd.R_base HO.out g e.symm; omega)); have hFr2 := Lib.hid (HFr.out.step hF2); have hR2 := Lib.hid hR2; have hs2 := Nat.le_trans hge hF2.size; clear hF2) | (at_builtin; refine Kd.R_append Kd.string (w0 := w2) w.heap.size rfl (.tmp 45) (.tmp 48) 29 9 (.string ⟨#[]⟩) 16 rfl Tryd.underlying29 infoStr rfl (by decide) (by omega) _ acc xs [.string xs] (fun _ => True) (fun _ => False) rfl rfl ?aP (fun _ hk => hk.elim) ?aF ?aO ?aB ?aS ?aL ?_; (case aP => exact rfl); (case aF => exact (fun _ _ => trivial)); (case aO => exact hO2.out); (case aB => exact Below.refl _ _); (case aS => exact hs2); (case aL => omega); intro v3 w3 hO3 hb3 hg3 hat3; have hs3 := hb3.size; have hO3 := Lib.hid hO3; have hF3b := Lib.hid ((hFr2.out).trans (Fr.of_grown hg3) (fun q hq => .inr (Kd.R_base hO2.out q hq))); have hR3 := Lib.hid (hR2.out.fr (Fr.of_grown hg3) (fun q hq => by have := Kd.R_base hO2.out q hq; omega)); clear hg3 hat3 hb3))
            go_roundw
            case rel => exact ⟨k + 1, acc ++ [xs], B2, x2, by omega, by rw [List.length_append]; simp; omega, by go_num, hO3.out, hR3.out, hF3b.out, fun _ => hm2, hnx.out⟩
            case measure => simp [intOf]; omega
          · have hkb : decide (k < m) = false := decide_eq_false hkm
            have hfin2 : rdTexts2 B fin = (acc, B', 0) := by
              have h1 := HFI.out
              rw [show m - k = 0 from by omega] at h1
              rw [← h1]
              rfl
            have HF2 := Lib.hid hfin2
            obtain ⟨Av, cv, rfl, hcv, hCv⟩ := Kd.R_reads HO.out
            have HP := Lib.hid (show TextsPost w g acc B' 0 (.returned (.slice Av acc.length cv)) wr from ⟨Av, cv, rfl, hcv, hCv, fun ad ha => Kd.R_base HO.out ad.block (by subst ha; rfl), HRd.out, HFr.out⟩)
            clear hfin hO hFr hbr hcr hAr hCr hfin2 hcv hCv
            go_wp2
            go_ret
            rw [HF2.out]
            exact HP.out
        · rw [if_neg he'] at hfin
          have hfin2 : rdTexts2 B fin = ([], B, e') := by
            rw [← hfin, rdTexts2, if_pos he']
          have HF2 := Lib.hid hfin2
          have he1' : (e' == 0) = false := beq_eq_false_iff_ne.2 he'
          have he2' : (e' != 0) = true := bne_iff_ne.2 he'
          have hN := Lib.hid (Rd.lay hbr hc HA.out (HFr.out.int HC.out (fun ad e _ hk => absurd (HA.out ad e) (by omega))))
          clear hfin hO hFr hbr hcr hAr hCr hfin2 he'
          by_cases hkm : k < m
          · have hkb : decide (k < m) = true := decide_eq_true hkm
            go_wp2
            go_ret
            rw [HF2.out]
            exact texts_nil hN.out (HFr.out.setCell _ _ rfl)
          · have hkb : decide (k < m) = false := decide_eq_false hkm
            go_wp2
            go_ret
            rw [HF2.out]
            exact texts_nil hN.out (HFr.out.setCell _ _ rfl)
  · obtain ⟨fin, hfin⟩ : ∃ fin, (if (rdNum B e).2.2 = 0 then rdLoop m B [] else ([], B, (rdNum B e).2.2)) = fin := ⟨_, rfl⟩
    have ht : rdTexts B e = rdTexts2 B fin := by rw [← hfin, rdTexts, if_pos he, if_neg he, rdTexts2, if_pos he]
    rw [ht]
    rw [rdNum_err he] at hnum
    rw [hm] at hnn
    generalize (rdNum B e).2.2 = x at he hnum hfin
    have hnum := Lib.hid hnum
    have HFIN := Lib.hid hfin
    have he1 : (x == 0) = false := beq_eq_false_iff_ne.2 he
    have he2 : (x != 0) = true := bne_iff_ne.2 he
    have HM1 : Hid (x = 0 → m ≤ 1000000) := Lib.hid (fun h => absurd h he)
    clear ht hm he hfin
    go_enter Tryd.func32, Tryd.ntmps32
    go_wp2_with (go_at_call 27; refine hnum.out.mono ?_; intro e1 w1 hp; obtain ⟨A1, c1, rfl, hF, hR, h01, h11, hz1, hc1, hA1, hC1, hb1⟩ := hp.val; have hF := Lib.hid hF; have hR := Lib.hid hR; clear hc1 hA1 hC1 hb1 hp)
    go_loopw [5, 6] (fun v5 v6 wr => LoopRel w g m fin v5 v6 wr) (fun _ v6 _ => m - (intOf v6).toNat)
    case atStart => exact ⟨0, [], B, x, Nat.zero_le _, Nat.le_refl _, rfl, Kd.R_nil _ _ _ _ _, hR.out, hF.out, HM1.out, HFIN.out⟩
    case round =>
      obtain ⟨k, acc, B', e', hk, hacc, rfl, hO, hRd, hFr, hm1, hfin⟩ := hrel
      have HM2 := Lib.hid hm1
      clear hm1
      have HO := Lib.hid hO
      have HFr := Lib.hid hFr
      have hge := hFr.size
      obtain ⟨Ar, cr, hbr, hcr, hAr, hCr⟩ := hRd
      have hr0 : wr.cell? ⟨g, 0, none⟩ = some (.slice Ar B'.size cr) := (blk_cell hbr 0).trans rfl
      have hr1 : wr.cell? ⟨g, 1, none⟩ = some (.int .i64 e') := (blk_cell hbr 1).trans rfl
      have hrz := blk_frozen hbr 0
      have HRd := Lib.hid (show Rd wr g B' e' from ⟨Ar, cr, hbr, hcr, hAr, hCr⟩)
      by_cases he' : e' = 0
      · subst he'
        rw [if_pos rfl] at hfin
        have HFI := Lib.hid hfin
        by_cases hkm : k < m
        · have hkb : decide (k < m) = true := decide_eq_true hkm
          have hm2 := HM2.out rfl
          have htx := Lib.hid (text_calls g B' 0 wr HRd.out)
          clear hfin hO hFr hbr hcr hAr hCr
          obtain ⟨xs, B2, x2, hq⟩ : ∃ xs B2 x2, rdText B' 0 = (xs, B2, x2) := ⟨_, _, _, rfl⟩
          rw [hq] at htx
          have hnx : Hid ((if x2 = 0 then rdLoop (m - (k + 1)) B2 (acc ++ [xs]) else (acc ++ [xs], B2, x2)) = fin) := Lib.hid (by
            have h1 := HFI.out
            rw [show m - k = (m - (k + 1)) + 1 from by omega] at h1
            unfold rdLoop at h1
            rw [hq] at h1
            simp only at h1
            by_cases hz : x2 = 0
            · rw [if_neg (by simp [hz])] at h1
              rw [if_pos hz]
              exact h1
            · rw [if_pos hz] at h1
              rw [if_neg hz]
              exact h1)
          clear hq
          go_wp2_with (first | (go_at_call 31; refine htx.out.mono ?_; rintro e2 w2 ⟨rfl, hR2, hF2⟩; have hO2 := Lib.hid (Kd.R_grown1 HO.out rfl hF2.grown (fun e => by have := Kd.R_base HO.out g e.symm; omega)); have hFr2 := Lib.hid (HFr.out.step hF2); have hR2 := Lib.hid hR2; have hs2 := Nat.le_trans hge hF2.size; clear hF2) | (at_builtin; refine Kd.R_append Kd.string (w0 := w2) w.heap.size rfl (.tmp 45) (.tmp 48) 29 9 (.string ⟨#[]⟩) 16 rfl Tryd.underlying29 infoStr rfl (by decide) (by omega) _ acc xs [.string xs] (fun _ => True) (fun _ => False) rfl rfl ?aP (fun _ hk => hk.elim) ?aF ?aO ?aB ?aS ?aL ?_; (case aP => exact rfl); (case aF => exact (fun _ _ => trivial)); (case aO => exact hO2.out); (case aB => exact Below.refl _ _); (case aS => exact hs2); (case aL => omega); intro v3 w3 hO3 hb3 hg3 hat3; have hs3 := hb3.size; have hO3 := Lib.hid hO3; have hF3b := Lib.hid ((hFr2.out).trans (Fr.of_grown hg3) (fun q hq => .inr (Kd.R_base hO2.out q hq))); have hR3 := Lib.hid (hR2.out.fr (Fr.of_grown hg3) (fun q hq => by have := Kd.R_base hO2.out q hq; omega)); clear hg3 hat3 hb3))
          go_roundw
          case rel => exact ⟨k + 1, acc ++ [xs], B2, x2, by omega, by rw [List.length_append]; simp; omega, by go_num, hO3.out, hR3.out, hF3b.out, fun _ => hm2, hnx.out⟩
          case measure => simp [intOf]; omega
        · have hkb : decide (k < m) = false := decide_eq_false hkm
          have hfin2 : rdTexts2 B fin = (acc, B', 0) := by
            have h1 := HFI.out
            rw [show m - k = 0 from by omega] at h1
            rw [← h1]
            rfl
          have HF2 := Lib.hid hfin2
          obtain ⟨Av, cv, rfl, hcv, hCv⟩ := Kd.R_reads HO.out
          have HP := Lib.hid (show TextsPost w g acc B' 0 (.returned (.slice Av acc.length cv)) wr from ⟨Av, cv, rfl, hcv, hCv, fun ad ha => Kd.R_base HO.out ad.block (by subst ha; rfl), HRd.out, HFr.out⟩)
          clear hfin hO hFr hbr hcr hAr hCr hfin2 hcv hCv
          go_wp2
          go_ret
          rw [HF2.out]
          exact HP.out
      · rw [if_neg he'] at hfin
        have hfin2 : rdTexts2 B fin = ([], B, e') := by
          rw [← hfin, rdTexts2, if_pos he']
        have HF2 := Lib.hid hfin2
        have he1' : (e' == 0) = false := beq_eq_false_iff_ne.2 he'
        have he2' : (e' != 0) = true := bne_iff_ne.2 he'
        have hN := Lib.hid (Rd.lay hbr hc HA.out (HFr.out.int HC.out (fun ad e _ hk => absurd (HA.out ad e) (by omega))))
        clear hfin hO hFr hbr hcr hAr hCr hfin2 he'
        by_cases hkm : k < m
        · have hkb : decide (k < m) = true := decide_eq_true hkm
          go_wp2
          go_ret
          rw [HF2.out]
          exact texts_nil hN.out (HFr.out.setCell _ _ rfl)
        · have hkb : decide (k < m) = false := decide_eq_false hkm
          go_wp2
          go_ret
          rw [HF2.out]
          exact texts_nil hN.out (HFr.out.setCell _ _ rfl)

end Go.Proofs.YtoiaancehakiiaaDoor.Q
