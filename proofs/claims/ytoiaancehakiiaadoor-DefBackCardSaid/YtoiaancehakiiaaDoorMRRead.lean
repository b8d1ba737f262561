/- The walk of the reference's Read of a definition, by hand. -/
import Derived.Test.YtoiaancehakiiaaDoorMRead
import Derived.Test.YtoiaancehakiiaaDoorMRef01T
import Derived.Test.YtoiaancehakiiaaDoorQ4
namespace Go.Proofs.YtoiaancehakiiaaDoor.Q
open Go.RowKit Go.Proofs.YtoiaancehakiiaaDoor.Plain Go.Proofs.YtoiaancehakiiaaDoorW.PrintWords

def RReadPost (w : World) (g : Nat) (d : DefV) (code : Int) (B : ByteArray) (x : Int) (e : Ending) (w' : World) : Prop :=
  ∃ A c, e = .returned (.tuple #[defVal d A c, .int .i64 code]) ∧ d.vars.length ≤ c ∧ Kd.string.C w' A d.vars.length d.vars ∧ (∀ ad, A = some ad → w.heap.size ≤ ad.block) ∧ Mr w' g B x ∧ Fr (fun k => k = g) w w'

set_option maxRecDepth 100000 in
set_option maxHeartbeats 4000000 in
theorem rread_calls (g : Nat) (B : ByteArray) (e : Int) (w : World) (h : Mr w g B e) (hs : B.size < 4294967281) :
    Calls Tryd.prog 9 #[.pointer (some ⟨g, 0, none⟩)] w (RReadPost w g (rdDef B e).1 (rdDef B e).2.1 (rdDef B e).2.2.1 (rdDef B e).2.2.2) := by
  have hg := blk_lt h
  have h' : Mr (w.alloc (.cells #[.int .i64 0, .string ⟨#[]⟩, .string ⟨#[]⟩, .slice none 0 0, .string ⟨#[]⟩, .string ⟨#[]⟩] 31)) g B e := h.fr ((Fr.refl (fun _ => False) w).alloc _) (fun h => h)
  have hnum := mnum_calls g B e _ h' (by omega)
  have H := Lib.hid h
  obtain ⟨n, B1, e1, hn⟩ : ∃ n B1 e1, rdNum B e = (n, B1, e1) := ⟨_, _, _, rfl⟩
  have HN := Lib.hid hn
  have hsz1 := (rdNum_nonneg B e).2.2
  rw [hn] at hnum hsz1
  simp only at hsz1
  have hnum := Lib.hid hnum
  clear h h' hn
  by_cases hn1 : n = 1
  · subst hn1
    obtain ⟨C, B2, e2, h2⟩ : ∃ C B2 e2, rdText B1 e1 = (C, B2, e2) := ⟨_, _, _, rfl⟩
    obtain ⟨S, B3, e3, h3⟩ : ∃ S B3 e3, rdText B2 e2 = (S, B3, e3) := ⟨_, _, _, rfl⟩
    obtain ⟨V, B4, e4, h4⟩ : ∃ V B4 e4, rdTexts B3 e3 = (V, B4, e4) := ⟨_, _, _, rfl⟩
    have HP : Hid (rdParts B e = (⟨1, C, S, V, ByteArray.empty, ByteArray.empty⟩, B4, e4)) := Lib.hid (rdParts_1 HN.out h2 h3 h4)
    have s2 := rdText_ssize B1 e1
    have s3 := rdText_ssize B2 e2
    rw [h2] at s2
    rw [h3] at s3
    simp only at s2 s3
    have ht2 : Hid (∀ W, Mr W g B1 e1 → Calls Tryd.prog 35 #[.pointer (some ⟨g, 0, none⟩)] W (MrPost W g (.string C) B2 e2)) := Lib.hid (fun W hW => by have := mtext_calls g B1 e1 W hW (by omega); rw [h2] at this; exact this)
    have ht3 : Hid (∀ W, Mr W g B2 e2 → Calls Tryd.prog 35 #[.pointer (some ⟨g, 0, none⟩)] W (MrPost W g (.string S) B3 e3)) := Lib.hid (fun W hW => by have := mtext_calls g B2 e2 W hW (by omega); rw [h3] at this; exact this)
    have ht4 : Hid (∀ W, Mr W g B3 e3 → Calls Tryd.prog 36 #[.pointer (some ⟨g, 0, none⟩)] W (MTextsPost W g V B4 e4)) := Lib.hid (fun W hW => by have := mtexts_calls g B3 e3 W hW (by omega); rw [h4] at this; exact this)
    clear h2 h3 h4 s2 s3
    go_enter Tryd.func9, Tryd.ntmps9
    go_wp2_with (go_at_call 34; refine hnum.out.mono ?_; rintro e1' w1 ⟨rfl, hR1, hF1⟩; have HF1 := Lib.hid (((Fr.refl (fun k => k = g) w).alloc _).step hF1); have HR1 := Lib.hid hR1; have hp1 := hF1.heap (heap_alloc_new w _) (by omega); have hg1 : w.heap.size < w1.heap.size := blk_lt hp1; have HP1 := Lib.hid hp1; clear hR1 hF1 hp1)
    have HQa := Lib.hid (heap_alloc_new w1 (.cells #[.int .i64 1, .string ⟨#[]⟩, .string ⟨#[]⟩, .slice none 0 0, .string ⟨#[]⟩, .string ⟨#[]⟩] 31))
    have HPa := Lib.hid (blk_alloc HP1.out (.cells #[.int .i64 1, .string ⟨#[]⟩, .string ⟨#[]⟩, .slice none 0 0, .string ⟨#[]⟩, .string ⟨#[]⟩] 31))
    have HFa := Lib.hid (HF1.out.alloc (.cells #[.int .i64 1, .string ⟨#[]⟩, .string ⟨#[]⟩, .slice none 0 0, .string ⟨#[]⟩, .string ⟨#[]⟩] 31))
    have HRa := Lib.hid (HR1.out.fr ((Fr.refl (fun _ => False) w1).alloc (.cells #[.int .i64 1, .string ⟨#[]⟩, .string ⟨#[]⟩, .slice none 0 0, .string ⟨#[]⟩, .string ⟨#[]⟩] 31)) (fun h => h))
    generalize w1.alloc (.cells #[.int .i64 1, .string ⟨#[]⟩, .string ⟨#[]⟩, .slice none 0 0, .string ⟨#[]⟩, .string ⟨#[]⟩] 31) = wa at *
    refine (ht2.out _ HRa.out).mono ?_
    rintro eb' xb ⟨rfl, hRb, hFb⟩
    have hqb := hFb.heap HQa.out (by omega)
    have hpb := hFb.heap HPa.out (by omega)
    have qj := blk_cell hqb 1
    have zj := blk_frozen hqb 1
    have q0 := blk_cell hqb 0
    go_wp2_with fail
    have hst : Fr (fun k => k = w1.heap.size) xb (xb.setCell ⟨w1.heap.size, 1, none⟩ (.string C)) := Fr.set_ (S := fun k => k = w1.heap.size) xb ⟨w1.heap.size, 1, none⟩ (.string C) rfl
    have HQb : Hid ((xb.setCell ⟨w1.heap.size, 1, none⟩ (.string C)).heap[w1.heap.size]? = some (.cells #[.int .i64 1, .string C, .string ⟨#[]⟩, .slice none 0 0, .string ⟨#[]⟩, .string ⟨#[]⟩] 31 (0, 0))) := Lib.hid (by have := blk_set hqb 1 (.string C); simpa using this)
    have HPb := Lib.hid (hst.heap hpb (by omega))
    have HFb := Lib.hid ((HFa.out.step hFb).trans hst (fun k hk => .inr (by omega)))
    have HRb := Lib.hid (hRb.fr hst (by omega))
    generalize xb.setCell ⟨w1.heap.size, 1, none⟩ (.string C) = wb at *
    clear hst hqb hpb hFb hRb qj zj q0
    refine (ht3.out _ HRb.out).mono ?_
    rintro ec' xc ⟨rfl, hRc, hFc⟩
    have hqc := hFc.heap HQb.out (by omega)
    have hpc := hFc.heap HPb.out (by omega)
    have qj := blk_cell hqc 2
    have zj := blk_frozen hqc 2
    have q0 := blk_cell hqc 0
    go_wp2_with fail
    have hst : Fr (fun k => k = w1.heap.size) xc (xc.setCell ⟨w1.heap.size, 2, none⟩ (.string S)) := Fr.set_ (S := fun k => k = w1.heap.size) xc ⟨w1.heap.size, 2, none⟩ (.string S) rfl
    have HQc : Hid ((xc.setCell ⟨w1.heap.size, 2, none⟩ (.string S)).heap[w1.heap.size]? = some (.cells #[.int .i64 1, .string C, .string S, .slice none 0 0, .string ⟨#[]⟩, .string ⟨#[]⟩] 31 (0, 0))) := Lib.hid (by have := blk_set hqc 2 (.string S); simpa using this)
    have HPc := Lib.hid (hst.heap hpc (by omega))
    have HFc := Lib.hid ((HFb.out.step hFc).trans hst (fun k hk => .inr (by omega)))
    have HRc := Lib.hid (hRc.fr hst (by omega))
    generalize xc.setCell ⟨w1.heap.size, 2, none⟩ (.string S) = wc at *
    clear hst hqc hpc hFc hRc qj zj q0
    refine (ht4.out _ HRc.out).mono ?_
    rintro ed' xd ⟨A, c, rfl, hc, hC, hA, hRd, hFd⟩
    have hqd := hFd.heap HQc.out (by omega)
    have hpd := hFd.heap HPc.out (by omega)
    have q0 := blk_cell hqd 0
    have q1 := blk_cell hqd 1
    have q2 := blk_cell hqd 2
    have q3 := blk_cell hqd 3
    have q4 := blk_cell hqd 4
    have q5 := blk_cell hqd 5
    have zj := blk_frozen hqd 3
    obtain ⟨m0, m1, mz0, mz1, mg⟩ := hRd.facts
    have hst : Fr (fun k => k = w1.heap.size) xd (xd.setCell ⟨w1.heap.size, 3, none⟩ (.slice A V.length c)) := Fr.set_ (S := fun k => k = w1.heap.size) xd ⟨w1.heap.size, 3, none⟩ (.slice A V.length c) rfl
    have HQd : Hid ((xd.setCell ⟨w1.heap.size, 3, none⟩ (.slice A V.length c)).heap[w1.heap.size]? = some (.cells #[.int .i64 1, .string C, .string S, .slice A V.length c, .string ⟨#[]⟩, .string ⟨#[]⟩] 31 (0, 0))) := Lib.hid (by have := blk_set hqd 3 (.slice A V.length c); simpa using this)
    have HPd := Lib.hid (hst.heap hpd (by omega))
    have HFd := Lib.hid ((HFc.out.step hFd).trans hst (fun k hk => .inr (by omega)))
    have HRd := Lib.hid (hRd.fr hst (by omega))
    have HCb := Lib.hid (hst.string hC (fun ad ha hn hk => by have h1 := hA ad ha; have h2 := blk_lt HQc.out; omega))
    have HA5 : Hid (∀ ad, A = some ad → w.heap.size ≤ ad.block) := Lib.hid (fun ad ha => by have h1 := hA ad ha; have h2 := blk_lt HPc.out; omega)
    have HAP : Hid (∀ ad, A = some ad → w.heap.size < ad.block) := Lib.hid (fun ad ha => by have h1 := hA ad ha; have h2 := blk_lt HPc.out; omega)
    clear hC hA
    clear hst hqd hpd hFd hRd
    by_cases he4 : e4 = 0
    · subst he4
      have hright := Lib.hid (monticuleref07_Right.calls (2 * V.length + 62) ((⟨1, C, S, V, ByteArray.empty, ByteArray.empty⟩ : DefV)).kind ((⟨1, C, S, V, ByteArray.empty, ByteArray.empty⟩ : DefV)).cls ((⟨1, C, S, V, ByteArray.empty, ByteArray.empty⟩ : DefV)).sup A c ((⟨1, C, S, V, ByteArray.empty, ByteArray.empty⟩ : DefV)).vars ((⟨1, C, S, V, ByteArray.empty, ByteArray.empty⟩ : DefV)).sel ((⟨1, C, S, V, ByteArray.empty, ByteArray.empty⟩ : DefV)).src (rightD (⟨1, C, S, V, ByteArray.empty, ByteArray.empty⟩ : DefV)) (xd.setCell ⟨w1.heap.size, 3, none⟩ (.slice A V.length c)) HCb.out hc (rright_ok (2 * V.length + 62) (⟨1, C, S, V, ByteArray.empty, ByteArray.empty⟩ : DefV) HCb.out.2.1 (by exact (by decide : (0 : Nat) < 4294967281)) (Nat.lt_succ_self _)))
      change Hid (Calls Tryd.prog 17 #[.agg #[.int .i64 1, .string C, .string S, .slice A V.length c, .string ⟨#[]⟩, .string ⟨#[]⟩]] (xd.setCell ⟨w1.heap.size, 3, none⟩ (.slice A V.length c)) _) at hright
      cases hrt : rightD (⟨1, C, S, V, ByteArray.empty, ByteArray.empty⟩ : DefV)
      · have HR : Hid (rdDef B e = (zeroD, 31, B4, 0)) := Lib.hid (by rw [rdDef, HP.out, if_neg (by simp)]; simp only; rw [hrt, if_neg (by simp)])
        rw [hrt] at hright
        clear hrt
        go_wp2_with fail
        generalize xd.setCell ⟨w1.heap.size, 3, none⟩ (.slice A V.length c) = wd at *
        refine hright.out.mono ?_
        rintro _ w7 ⟨rfl, hb7⟩
        have HPX := Lib.hid ((Fr.of_below (fun _ => False) hb7).heap HPd.out (fun h => h))
        have HF7 := Lib.hid (HFd.out.then_below hb7)
        have HR7 := Lib.hid (HRd.out.fr (Fr.of_below (fun _ => False) hb7) (fun h => h))
        have hs7 := hb7.size
        clear hb7 q0 q1 q2 q3 q4 q5 m0 m1 mz0 mz1
        have p0 := blk_cell HPX.out 0
        have p1 := blk_cell HPX.out 1
        have p2 := blk_cell HPX.out 2
        have p3 := blk_cell HPX.out 3
        have p4 := blk_cell HPX.out 4
        have p5 := blk_cell HPX.out 5
        have y0 := blk_frozen HPX.out 0
        have y1 := blk_frozen HPX.out 1
        have y2 := blk_frozen HPX.out 2
        have y3 := blk_frozen HPX.out 3
        have y4 := blk_frozen HPX.out 4
        have y5 := blk_frozen HPX.out 5
        go_wp2_with fail
        have hb6 := six_blk HPX.out (.int .i64 0) (.string ⟨#[]⟩) (.string ⟨#[]⟩) (.slice none 0 0) (.string ⟨#[]⟩) (.string ⟨#[]⟩)
        have hf6 := six_fr w7 w.heap.size (.int .i64 0) (.string ⟨#[]⟩) (.string ⟨#[]⟩) (.slice none 0 0) (.string ⟨#[]⟩) (.string ⟨#[]⟩)
        unfold six at hb6 hf6
        have HF6 := Lib.hid (HF7.out.trans hf6 (fun k hk => .inr (by omega)))
        have HR6 := Lib.hid (HR7.out.fr hf6 (by omega))
        clear hf6
        have r0 := blk_cell hb6 0
        have r1 := blk_cell hb6 1
        have r2 := blk_cell hb6 2
        have r3 := blk_cell hb6 3
        have r4 := blk_cell hb6 4
        have r5 := blk_cell hb6 5
        clear hb6 p0 p1 p2 p3 p4 p5 y0 y1 y2 y3 y4 y5
        generalize ((((((w7.setCell ⟨w.heap.size, 0, none⟩ (.int .i64 0)).setCell ⟨w.heap.size, 1, none⟩ (.string ⟨#[]⟩)).setCell ⟨w.heap.size, 2, none⟩ (.string ⟨#[]⟩)).setCell ⟨w.heap.size, 3, none⟩ (.slice none 0 0)).setCell ⟨w.heap.size, 4, none⟩ (.string ⟨#[]⟩)).setCell ⟨w.heap.size, 5, none⟩ (.string ⟨#[]⟩)) = w6 at *
        rw [HR.out]
        refine bodyPost_ret (v := .tuple #[.agg #[.int .i64 0, .string ⟨#[]⟩, .string ⟨#[]⟩, .slice none 0 0, .string ⟨#[]⟩, .string ⟨#[]⟩], .int .i64 31]) ?_ rfl ?_
        · simp [results, Tryd.results9, go_sem, r0, r1, r2, r3, r4, r5]
        · exact ⟨none, 0, rfl, Nat.le_refl _, Kd.C_nil Kd.string w6, (fun _ h => nomatch h), HR6.out, HF6.out⟩
      · have HR : Hid (rdDef B e = ((⟨1, C, S, V, ByteArray.empty, ByteArray.empty⟩ : DefV), 0, B4, 0)) := Lib.hid (by rw [rdDef, HP.out, if_neg (by simp)]; simp only; rw [hrt, if_pos rfl])
        rw [hrt] at hright
        clear hrt
        go_wp2_with fail
        generalize xd.setCell ⟨w1.heap.size, 3, none⟩ (.slice A V.length c) = wd at *
        refine hright.out.mono ?_
        rintro _ w7 ⟨rfl, hb7⟩
        have HPX := Lib.hid ((Fr.of_below (fun _ => False) hb7).heap HPd.out (fun h => h))
        have hqx := (Fr.of_below (fun _ => False) hb7).heap HQd.out (fun h => h)
        have HF7 := Lib.hid (HFd.out.then_below hb7)
        have HR7 := Lib.hid (HRd.out.fr (Fr.of_below (fun _ => False) hb7) (fun h => h))
        have hs7 := hb7.size
        have HC7 := Lib.hid (Kd.C_below HCb.out hb7)
        clear q0 q1 q2 q3 q4 q5 m0 m1 mz0 mz1
        have q0 := blk_cell hqx 0
        have q1 := blk_cell hqx 1
        have q2 := blk_cell hqx 2
        have q3 := blk_cell hqx 3
        have q4 := blk_cell hqx 4
        have q5 := blk_cell hqx 5
        clear hqx hb7
        have p0 := blk_cell HPX.out 0
        have p1 := blk_cell HPX.out 1
        have p2 := blk_cell HPX.out 2
        have p3 := blk_cell HPX.out 3
        have p4 := blk_cell HPX.out 4
        have p5 := blk_cell HPX.out 5
        have y0 := blk_frozen HPX.out 0
        have y1 := blk_frozen HPX.out 1
        have y2 := blk_frozen HPX.out 2
        have y3 := blk_frozen HPX.out 3
        have y4 := blk_frozen HPX.out 4
        have y5 := blk_frozen HPX.out 5
        go_wp2_with fail
        have hb6 := six_blk HPX.out (.int .i64 1) (.string C) (.string S) (.slice A V.length c) (.string ⟨#[]⟩) (.string ⟨#[]⟩)
        have hf6 := six_fr w7 w.heap.size (.int .i64 1) (.string C) (.string S) (.slice A V.length c) (.string ⟨#[]⟩) (.string ⟨#[]⟩)
        unfold six at hb6 hf6
        have HF6 := Lib.hid (HF7.out.trans hf6 (fun k hk => .inr (by omega)))
        have HR6 := Lib.hid (HR7.out.fr hf6 (by omega))
        have HC6 := Lib.hid (hf6.string HC7.out (fun ad ha hn hk => by have h3 := HAP.out ad ha; omega))
        clear hf6
        have r0 := blk_cell hb6 0
        have r1 := blk_cell hb6 1
        have r2 := blk_cell hb6 2
        have r3 := blk_cell hb6 3
        have r4 := blk_cell hb6 4
        have r5 := blk_cell hb6 5
        clear hb6 p0 p1 p2 p3 p4 p5 y0 y1 y2 y3 y4 y5
        generalize ((((((w7.setCell ⟨w.heap.size, 0, none⟩ (.int .i64 1)).setCell ⟨w.heap.size, 1, none⟩ (.string C)).setCell ⟨w.heap.size, 2, none⟩ (.string S)).setCell ⟨w.heap.size, 3, none⟩ (.slice A V.length c)).setCell ⟨w.heap.size, 4, none⟩ (.string ⟨#[]⟩)).setCell ⟨w.heap.size, 5, none⟩ (.string ⟨#[]⟩)) = w6 at *
        rw [HR.out]
        refine bodyPost_ret (v := .tuple #[.agg #[.int .i64 1, .string C, .string S, .slice A V.length c, .string ⟨#[]⟩, .string ⟨#[]⟩], .int .i64 0]) ?_ rfl ?_
        · simp [results, Tryd.results9, go_sem, r0, r1, r2, r3, r4, r5]
        · exact ⟨A, c, rfl, hc, HC6.out, HA5.out, HR6.out, HF6.out⟩
    · have he1' : (e4 == 0) = false := beq_eq_false_iff_ne.2 he4
      have he2' : (e4 != 0) = true := bne_iff_ne.2 he4
      have HR : Hid (rdDef B e = (zeroD, e4, B4, e4)) := Lib.hid (by rw [rdDef, HP.out, if_pos he4])
      clear he4
      have HPX := HPd
      have p0 := blk_cell HPX.out 0
      have p1 := blk_cell HPX.out 1
      have p2 := blk_cell HPX.out 2
      have p3 := blk_cell HPX.out 3
      have p4 := blk_cell HPX.out 4
      have p5 := blk_cell HPX.out 5
      have y0 := blk_frozen HPX.out 0
      have y1 := blk_frozen HPX.out 1
      have y2 := blk_frozen HPX.out 2
      have y3 := blk_frozen HPX.out 3
      have y4 := blk_frozen HPX.out 4
      have y5 := blk_frozen HPX.out 5
      go_wp2_with fail
      generalize xd.setCell ⟨w1.heap.size, 3, none⟩ (.slice A V.length c) = wd at *
      obtain ⟨n0, n1, nz0, nz1, ng⟩ := HRd.out.facts
      go_region
      go_wp2
      have hb6 := six_blk HPX.out (.int .i64 0) (.string ⟨#[]⟩) (.string ⟨#[]⟩) (.slice none 0 0) (.string ⟨#[]⟩) (.string ⟨#[]⟩)
      have hf6 := six_fr wd w.heap.size (.int .i64 0) (.string ⟨#[]⟩) (.string ⟨#[]⟩) (.slice none 0 0) (.string ⟨#[]⟩) (.string ⟨#[]⟩)
      unfold six at hb6 hf6
      have HF6 := Lib.hid (HFd.out.trans hf6 (fun k hk => .inr (by omega)))
      have HR6 := Lib.hid (HRd.out.fr hf6 (by omega))
      clear hf6
      have r0 := blk_cell hb6 0
      have r1 := blk_cell hb6 1
      have r2 := blk_cell hb6 2
      have r3 := blk_cell hb6 3
      have r4 := blk_cell hb6 4
      have r5 := blk_cell hb6 5
      clear hb6 p0 p1 p2 p3 p4 p5 y0 y1 y2 y3 y4 y5
      generalize ((((((wd.setCell ⟨w.heap.size, 0, none⟩ (.int .i64 0)).setCell ⟨w.heap.size, 1, none⟩ (.string ⟨#[]⟩)).setCell ⟨w.heap.size, 2, none⟩ (.string ⟨#[]⟩)).setCell ⟨w.heap.size, 3, none⟩ (.slice none 0 0)).setCell ⟨w.heap.size, 4, none⟩ (.string ⟨#[]⟩)).setCell ⟨w.heap.size, 5, none⟩ (.string ⟨#[]⟩)) = w6 at *
      rw [HR.out]
      refine bodyPost_ret (v := .tuple #[.agg #[.int .i64 0, .string ⟨#[]⟩, .string ⟨#[]⟩, .slice none 0 0, .string ⟨#[]⟩, .string ⟨#[]⟩], .int .i64 e4]) ?_ rfl ?_
      · simp [results, Tryd.results9, go_sem, r0, r1, r2, r3, r4, r5]
      · exact ⟨none, 0, rfl, Nat.le_refl _, Kd.C_nil Kd.string w6.drew, (fun _ h => nomatch h), blk_drew HR6.out, HF6.out.drew⟩
  by_cases hn2 : n = 2
  · subst hn2
    obtain ⟨C, B2, e2, h2⟩ : ∃ C B2 e2, rdText B1 e1 = (C, B2, e2) := ⟨_, _, _, rfl⟩
    obtain ⟨S, B3, e3, h3⟩ : ∃ S B3 e3, rdText B2 e2 = (S, B3, e3) := ⟨_, _, _, rfl⟩
    obtain ⟨V, B4, e4, h4⟩ : ∃ V B4 e4, rdText B3 e3 = (V, B4, e4) := ⟨_, _, _, rfl⟩
    have HP : Hid (rdParts B e = (⟨2, C, ByteArray.empty, [], S, V⟩, B4, e4)) := Lib.hid (rdParts_2 HN.out h2 h3 h4)
    have s2 := rdText_ssize B1 e1
    have s3 := rdText_ssize B2 e2
    have s4 := rdText_vsize B2 e2
    rw [h2] at s2
    rw [h3] at s3 s4
    simp only at s2 s3 s4
    have hS : S.size < 4294967281 := by omega
    have ht2 : Hid (∀ W, Mr W g B1 e1 → Calls Tryd.prog 35 #[.pointer (some ⟨g, 0, none⟩)] W (MrPost W g (.string C) B2 e2)) := Lib.hid (fun W hW => by have := mtext_calls g B1 e1 W hW (by omega); rw [h2] at this; exact this)
    have ht3 : Hid (∀ W, Mr W g B2 e2 → Calls Tryd.prog 35 #[.pointer (some ⟨g, 0, none⟩)] W (MrPost W g (.string S) B3 e3)) := Lib.hid (fun W hW => by have := mtext_calls g B2 e2 W hW (by omega); rw [h3] at this; exact this)
    have ht4 : Hid (∀ W, Mr W g B3 e3 → Calls Tryd.prog 35 #[.pointer (some ⟨g, 0, none⟩)] W (MrPost W g (.string V) B4 e4)) := Lib.hid (fun W hW => by have := mtext_calls g B3 e3 W hW (by omega); rw [h4] at this; exact this)
    clear h2 h3 h4 s2 s3 s4
    go_enter Tryd.func9, Tryd.ntmps9
    go_wp2_with (go_at_call 34; refine hnum.out.mono ?_; rintro e1' w1 ⟨rfl, hR1, hF1⟩; have HF1 := Lib.hid (((Fr.refl (fun k => k = g) w).alloc _).step hF1); have HR1 := Lib.hid hR1; have hp1 := hF1.heap (heap_alloc_new w _) (by omega); have hg1 : w.heap.size < w1.heap.size := blk_lt hp1; have HP1 := Lib.hid hp1; clear hR1 hF1 hp1)
    have HQa := Lib.hid (heap_alloc_new w1 (.cells #[.int .i64 2, .string ⟨#[]⟩, .string ⟨#[]⟩, .slice none 0 0, .string ⟨#[]⟩, .string ⟨#[]⟩] 31))
    have HPa := Lib.hid (blk_alloc HP1.out (.cells #[.int .i64 2, .string ⟨#[]⟩, .string ⟨#[]⟩, .slice none 0 0, .string ⟨#[]⟩, .string ⟨#[]⟩] 31))
    have HFa := Lib.hid (HF1.out.alloc (.cells #[.int .i64 2, .string ⟨#[]⟩, .string ⟨#[]⟩, .slice none 0 0, .string ⟨#[]⟩, .string ⟨#[]⟩] 31))
    have HRa := Lib.hid (HR1.out.fr ((Fr.refl (fun _ => False) w1).alloc (.cells #[.int .i64 2, .string ⟨#[]⟩, .string ⟨#[]⟩, .slice none 0 0, .string ⟨#[]⟩, .string ⟨#[]⟩] 31)) (fun h => h))
    generalize w1.alloc (.cells #[.int .i64 2, .string ⟨#[]⟩, .string ⟨#[]⟩, .slice none 0 0, .string ⟨#[]⟩, .string ⟨#[]⟩] 31) = wa at *
    have q0 := blk_cell HQa.out 0
    go_wp2_with fail
    clear q0
    refine (ht2.out _ HRa.out).mono ?_
    rintro eb' xb ⟨rfl, hRb, hFb⟩
    have hqb := hFb.heap HQa.out (by omega)
    have hpb := hFb.heap HPa.out (by omega)
    have qj := blk_cell hqb 1
    have zj := blk_frozen hqb 1
    have q0 := blk_cell hqb 0
    go_wp2_with fail
    have hst : Fr (fun k => k = w1.heap.size) xb (xb.setCell ⟨w1.heap.size, 1, none⟩ (.string C)) := Fr.set_ (S := fun k => k = w1.heap.size) xb ⟨w1.heap.size, 1, none⟩ (.string C) rfl
    have HQb : Hid ((xb.setCell ⟨w1.heap.size, 1, none⟩ (.string C)).heap[w1.heap.size]? = some (.cells #[.int .i64 2, .string C, .string ⟨#[]⟩, .slice none 0 0, .string ⟨#[]⟩, .string ⟨#[]⟩] 31 (0, 0))) := Lib.hid (by have := blk_set hqb 1 (.string C); simpa using this)
    have HPb := Lib.hid (hst.heap hpb (by omega))
    have HFb := Lib.hid ((HFa.out.step hFb).trans hst (fun k hk => .inr (by omega)))
    have HRb := Lib.hid (hRb.fr hst (by omega))
    generalize xb.setCell ⟨w1.heap.size, 1, none⟩ (.string C) = wb at *
    clear hst hqb hpb hFb hRb qj zj q0
    refine (ht3.out _ HRb.out).mono ?_
    rintro ec' xc ⟨rfl, hRc, hFc⟩
    have hqc := hFc.heap HQb.out (by omega)
    have hpc := hFc.heap HPb.out (by omega)
    have qj := blk_cell hqc 4
    have zj := blk_frozen hqc 4
    have q0 := blk_cell hqc 0
    go_wp2_with fail
    have hst : Fr (fun k => k = w1.heap.size) xc (xc.setCell ⟨w1.heap.size, 4, none⟩ (.string S)) := Fr.set_ (S := fun k => k = w1.heap.size) xc ⟨w1.heap.size, 4, none⟩ (.string S) rfl
    have HQc : Hid ((xc.setCell ⟨w1.heap.size, 4, none⟩ (.string S)).heap[w1.heap.size]? = some (.cells #[.int .i64 2, .string C, .string ⟨#[]⟩, .slice none 0 0, .string S, .string ⟨#[]⟩] 31 (0, 0))) := Lib.hid (by have := blk_set hqc 4 (.string S); simpa using this)
    have HPc := Lib.hid (hst.heap hpc (by omega))
    have HFc := Lib.hid ((HFb.out.step hFc).trans hst (fun k hk => .inr (by omega)))
    have HRc := Lib.hid (hRc.fr hst (by omega))
    generalize xc.setCell ⟨w1.heap.size, 4, none⟩ (.string S) = wc at *
    clear hst hqc hpc hFc hRc qj zj q0
    refine (ht4.out _ HRc.out).mono ?_
    rintro ed' xd ⟨rfl, hRd, hFd⟩
    have hqd := hFd.heap HQc.out (by omega)
    have hpd := hFd.heap HPc.out (by omega)
    have q0 := blk_cell hqd 0
    have q1 := blk_cell hqd 1
    have q2 := blk_cell hqd 2
    have q3 := blk_cell hqd 3
    have q4 := blk_cell hqd 4
    have q5 := blk_cell hqd 5
    have zj := blk_frozen hqd 5
    obtain ⟨m0, m1, mz0, mz1, mg⟩ := hRd.facts
    have hst : Fr (fun k => k = w1.heap.size) xd (xd.setCell ⟨w1.heap.size, 5, none⟩ (.string V)) := Fr.set_ (S := fun k => k = w1.heap.size) xd ⟨w1.heap.size, 5, none⟩ (.string V) rfl
    have HQd : Hid ((xd.setCell ⟨w1.heap.size, 5, none⟩ (.string V)).heap[w1.heap.size]? = some (.cells #[.int .i64 2, .string C, .string ⟨#[]⟩, .slice none 0 0, .string S, .string V] 31 (0, 0))) := Lib.hid (by have := blk_set hqd 5 (.string V); simpa using this)
    have HPd := Lib.hid (hst.heap hpd (by omega))
    have HFd := Lib.hid ((HFc.out.step hFd).trans hst (fun k hk => .inr (by omega)))
    have HRd := Lib.hid (hRd.fr hst (by omega))
    clear hst hqd hpd hFd hRd
    by_cases he4 : e4 = 0
    · subst he4
      have hright := Lib.hid (monticuleref07_Right.calls (2 * 0 + 62) ((⟨2, C, ByteArray.empty, [], S, V⟩ : DefV)).kind ((⟨2, C, ByteArray.empty, [], S, V⟩ : DefV)).cls ((⟨2, C, ByteArray.empty, [], S, V⟩ : DefV)).sup none 0 ((⟨2, C, ByteArray.empty, [], S, V⟩ : DefV)).vars ((⟨2, C, ByteArray.empty, [], S, V⟩ : DefV)).sel ((⟨2, C, ByteArray.empty, [], S, V⟩ : DefV)).src (rightD (⟨2, C, ByteArray.empty, [], S, V⟩ : DefV)) (xd.setCell ⟨w1.heap.size, 5, none⟩ (.string V)) (Kd.C_nil Kd.string (xd.setCell ⟨w1.heap.size, 5, none⟩ (.string V))) (Nat.le_refl _) (rright_ok (2 * 0 + 62) (⟨2, C, ByteArray.empty, [], S, V⟩ : DefV) (by exact (by decide : (0 : Nat) ≤ 9223372036854775807)) (by exact hS) (Nat.lt_succ_self _)))
      change Hid (Calls Tryd.prog 17 #[.agg #[.int .i64 2, .string C, .string ⟨#[]⟩, .slice none 0 0, .string S, .string V]] (xd.setCell ⟨w1.heap.size, 5, none⟩ (.string V)) _) at hright
      cases hrt : rightD (⟨2, C, ByteArray.empty, [], S, V⟩ : DefV)
      · have HR : Hid (rdDef B e = (zeroD, 31, B4, 0)) := Lib.hid (by rw [rdDef, HP.out, if_neg (by simp)]; simp only; rw [hrt, if_neg (by simp)])
        rw [hrt] at hright
        clear hrt
        go_wp2_with fail
        generalize xd.setCell ⟨w1.heap.size, 5, none⟩ (.string V) = wd at *
        refine hright.out.mono ?_
        rintro _ w7 ⟨rfl, hb7⟩
        have HPX := Lib.hid ((Fr.of_below (fun _ => False) hb7).heap HPd.out (fun h => h))
        have HF7 := Lib.hid (HFd.out.then_below hb7)
        have HR7 := Lib.hid (HRd.out.fr (Fr.of_below (fun _ => False) hb7) (fun h => h))
        have hs7 := hb7.size
        clear hb7 q0 q1 q2 q3 q4 q5 m0 m1 mz0 mz1
        have p0 := blk_cell HPX.out 0
        have p1 := blk_cell HPX.out 1
        have p2 := blk_cell HPX.out 2
        have p3 := blk_cell HPX.out 3
        have p4 := blk_cell HPX.out 4
        have p5 := blk_cell HPX.out 5
        have y0 := blk_frozen HPX.out 0
        have y1 := blk_frozen HPX.out 1
        have y2 := blk_frozen HPX.out 2
        have y3 := blk_frozen HPX.out 3
        have y4 := blk_frozen HPX.out 4
        have y5 := blk_frozen HPX.out 5
        go_wp2_with fail
        have hb6 := six_blk HPX.out (.int .i64 0) (.string ⟨#[]⟩) (.string ⟨#[]⟩) (.slice none 0 0) (.string ⟨#[]⟩) (.string ⟨#[]⟩)
        have hf6 := six_fr w7 w.heap.size (.int .i64 0) (.string ⟨#[]⟩) (.string ⟨#[]⟩) (.slice none 0 0) (.string ⟨#[]⟩) (.string ⟨#[]⟩)
        unfold six at hb6 hf6
        have HF6 := Lib.hid (HF7.out.trans hf6 (fun k hk => .inr (by omega)))
        have HR6 := Lib.hid (HR7.out.fr hf6 (by omega))
        clear hf6
        have r0 := blk_cell hb6 0
        have r1 := blk_cell hb6 1
        have r2 := blk_cell hb6 2
        have r3 := blk_cell hb6 3
        have r4 := blk_cell hb6 4
        have r5 := blk_cell hb6 5
        clear hb6 p0 p1 p2 p3 p4 p5 y0 y1 y2 y3 y4 y5
        generalize ((((((w7.setCell ⟨w.heap.size, 0, none⟩ (.int .i64 0)).setCell ⟨w.heap.size, 1, none⟩ (.string ⟨#[]⟩)).setCell ⟨w.heap.size, 2, none⟩ (.string ⟨#[]⟩)).setCell ⟨w.heap.size, 3, none⟩ (.slice none 0 0)).setCell ⟨w.heap.size, 4, none⟩ (.string ⟨#[]⟩)).setCell ⟨w.heap.size, 5, none⟩ (.string ⟨#[]⟩)) = w6 at *
        rw [HR.out]
        refine bodyPost_ret (v := .tuple #[.agg #[.int .i64 0, .string ⟨#[]⟩, .string ⟨#[]⟩, .slice none 0 0, .string ⟨#[]⟩, .string ⟨#[]⟩], .int .i64 31]) ?_ rfl ?_
        · simp [results, Tryd.results9, go_sem, r0, r1, r2, r3, r4, r5]
        · exact ⟨none, 0, rfl, Nat.le_refl _, Kd.C_nil Kd.string w6, (fun _ h => nomatch h), HR6.out, HF6.out⟩
      · have HR : Hid (rdDef B e = ((⟨2, C, ByteArray.empty, [], S, V⟩ : DefV), 0, B4, 0)) := Lib.hid (by rw [rdDef, HP.out, if_neg (by simp)]; simp only; rw [hrt, if_pos rfl])
        rw [hrt] at hright
        clear hrt
        go_wp2_with fail
        generalize xd.setCell ⟨w1.heap.size, 5, none⟩ (.string V) = wd at *
        refine hright.out.mono ?_
        rintro _ w7 ⟨rfl, hb7⟩
        have HPX := Lib.hid ((Fr.of_below (fun _ => False) hb7).heap HPd.out (fun h => h))
        have hqx := (Fr.of_below (fun _ => False) hb7).heap HQd.out (fun h => h)
        have HF7 := Lib.hid (HFd.out.then_below hb7)
        have HR7 := Lib.hid (HRd.out.fr (Fr.of_below (fun _ => False) hb7) (fun h => h))
        have hs7 := hb7.size
        clear q0 q1 q2 q3 q4 q5 m0 m1 mz0 mz1
        have q0 := blk_cell hqx 0
        have q1 := blk_cell hqx 1
        have q2 := blk_cell hqx 2
        have q3 := blk_cell hqx 3
        have q4 := blk_cell hqx 4
        have q5 := blk_cell hqx 5
        clear hqx hb7
        have p0 := blk_cell HPX.out 0
        have p1 := blk_cell HPX.out 1
        have p2 := blk_cell HPX.out 2
        have p3 := blk_cell HPX.out 3
        have p4 := blk_cell HPX.out 4
        have p5 := blk_cell HPX.out 5
        have y0 := blk_frozen HPX.out 0
        have y1 := blk_frozen HPX.out 1
        have y2 := blk_frozen HPX.out 2
        have y3 := blk_frozen HPX.out 3
        have y4 := blk_frozen HPX.out 4
        have y5 := blk_frozen HPX.out 5
        go_wp2_with fail
        have hb6 := six_blk HPX.out (.int .i64 2) (.string C) (.string ⟨#[]⟩) (.slice none 0 0) (.string S) (.string V)
        have hf6 := six_fr w7 w.heap.size (.int .i64 2) (.string C) (.string ⟨#[]⟩) (.slice none 0 0) (.string S) (.string V)
        unfold six at hb6 hf6
        have HF6 := Lib.hid (HF7.out.trans hf6 (fun k hk => .inr (by omega)))
        have HR6 := Lib.hid (HR7.out.fr hf6 (by omega))
        clear hf6
        have r0 := blk_cell hb6 0
        have r1 := blk_cell hb6 1
        have r2 := blk_cell hb6 2
        have r3 := blk_cell hb6 3
        have r4 := blk_cell hb6 4
        have r5 := blk_cell hb6 5
        clear hb6 p0 p1 p2 p3 p4 p5 y0 y1 y2 y3 y4 y5
        generalize ((((((w7.setCell ⟨w.heap.size, 0, none⟩ (.int .i64 2)).setCell ⟨w.heap.size, 1, none⟩ (.string C)).setCell ⟨w.heap.size, 2, none⟩ (.string ⟨#[]⟩)).setCell ⟨w.heap.size, 3, none⟩ (.slice none 0 0)).setCell ⟨w.heap.size, 4, none⟩ (.string S)).setCell ⟨w.heap.size, 5, none⟩ (.string V)) = w6 at *
        rw [HR.out]
        refine bodyPost_ret (v := .tuple #[.agg #[.int .i64 2, .string C, .string ⟨#[]⟩, .slice none 0 0, .string S, .string V], .int .i64 0]) ?_ rfl ?_
        · simp [results, Tryd.results9, go_sem, r0, r1, r2, r3, r4, r5]
        · exact ⟨none, 0, rfl, Nat.le_refl _, Kd.C_nil Kd.string w6, (fun _ h => nomatch h), HR6.out, HF6.out⟩
    · have he1' : (e4 == 0) = false := beq_eq_false_iff_ne.2 he4
      have he2' : (e4 != 0) = true := bne_iff_ne.2 he4
      have HR : Hid (rdDef B e = (zeroD, e4, B4, e4)) := Lib.hid (by rw [rdDef, HP.out, if_pos he4])
      clear he4
      have HPX := HPd
      have p0 := blk_cell HPX.out 0
      have p1 := blk_cell HPX.out 1
      have p2 := blk_cell HPX.out 2
      have p3 := blk_cell HPX.out 3
      have p4 := blk_cell HPX.out 4
      have p5 := blk_cell HPX.out 5
      have y0 := blk_frozen HPX.out 0
      have y1 := blk_frozen HPX.out 1
      have y2 := blk_frozen HPX.out 2
      have y3 := blk_frozen HPX.out 3
      have y4 := blk_frozen HPX.out 4
      have y5 := blk_frozen HPX.out 5
      go_wp2_with fail
      generalize xd.setCell ⟨w1.heap.size, 5, none⟩ (.string V) = wd at *
      obtain ⟨n0, n1, nz0, nz1, ng⟩ := HRd.out.facts
      go_region
      go_wp2
      have hb6 := six_blk HPX.out (.int .i64 0) (.string ⟨#[]⟩) (.string ⟨#[]⟩) (.slice none 0 0) (.string ⟨#[]⟩) (.string ⟨#[]⟩)
      have hf6 := six_fr wd w.heap.size (.int .i64 0) (.string ⟨#[]⟩) (.string ⟨#[]⟩) (.slice none 0 0) (.string ⟨#[]⟩) (.string ⟨#[]⟩)
      unfold six at hb6 hf6
      have HF6 := Lib.hid (HFd.out.trans hf6 (fun k hk => .inr (by omega)))
      have HR6 := Lib.hid (HRd.out.fr hf6 (by omega))
      clear hf6
      have r0 := blk_cell hb6 0
      have r1 := blk_cell hb6 1
      have r2 := blk_cell hb6 2
      have r3 := blk_cell hb6 3
      have r4 := blk_cell hb6 4
      have r5 := blk_cell hb6 5
      clear hb6 p0 p1 p2 p3 p4 p5 y0 y1 y2 y3 y4 y5
      generalize ((((((wd.setCell ⟨w.heap.size, 0, none⟩ (.int .i64 0)).setCell ⟨w.heap.size, 1, none⟩ (.string ⟨#[]⟩)).setCell ⟨w.heap.size, 2, none⟩ (.string ⟨#[]⟩)).setCell ⟨w.heap.size, 3, none⟩ (.slice none 0 0)).setCell ⟨w.heap.size, 4, none⟩ (.string ⟨#[]⟩)).setCell ⟨w.heap.size, 5, none⟩ (.string ⟨#[]⟩)) = w6 at *
      rw [HR.out]
      refine bodyPost_ret (v := .tuple #[.agg #[.int .i64 0, .string ⟨#[]⟩, .string ⟨#[]⟩, .slice none 0 0, .string ⟨#[]⟩, .string ⟨#[]⟩], .int .i64 e4]) ?_ rfl ?_
      · simp [results, Tryd.results9, go_sem, r0, r1, r2, r3, r4, r5]
      · exact ⟨none, 0, rfl, Nat.le_refl _, Kd.C_nil Kd.string w6.drew, (fun _ h => nomatch h), blk_drew HR6.out, HF6.out.drew⟩
  have HP : Hid (rdParts B e = (⟨n, ByteArray.empty, ByteArray.empty, [], ByteArray.empty, ByteArray.empty⟩, B1, e1)) := Lib.hid (rdParts_0 HN.out hn1 hn2)
  have hk1 : (n == 1) = false := beq_eq_false_iff_ne.2 hn1
  have hk2 : (n == 2) = false := beq_eq_false_iff_ne.2 hn2
  clear hn1 hn2
  by_cases he4 : e1 = 0
  · subst he4
    have hright := Lib.hid (fun W => monticuleref07_Right.calls (2 * 0 + 62) ((⟨n, ByteArray.empty, ByteArray.empty, [], ByteArray.empty, ByteArray.empty⟩ : DefV)).kind ((⟨n, ByteArray.empty, ByteArray.empty, [], ByteArray.empty, ByteArray.empty⟩ : DefV)).cls ((⟨n, ByteArray.empty, ByteArray.empty, [], ByteArray.empty, ByteArray.empty⟩ : DefV)).sup none 0 ((⟨n, ByteArray.empty, ByteArray.empty, [], ByteArray.empty, ByteArray.empty⟩ : DefV)).vars ((⟨n, ByteArray.empty, ByteArray.empty, [], ByteArray.empty, ByteArray.empty⟩ : DefV)).sel ((⟨n, ByteArray.empty, ByteArray.empty, [], ByteArray.empty, ByteArray.empty⟩ : DefV)).src (rightD (⟨n, ByteArray.empty, ByteArray.empty, [], ByteArray.empty, ByteArray.empty⟩ : DefV)) W (Kd.C_nil Kd.string W) (Nat.le_refl _) (rright_ok (2 * 0 + 62) (⟨n, ByteArray.empty, ByteArray.empty, [], ByteArray.empty, ByteArray.empty⟩ : DefV) (by exact (by decide : (0 : Nat) ≤ 9223372036854775807)) (by exact (by decide : (0 : Nat) < 4294967281)) (Nat.lt_succ_self _)))
    change Hid (∀ W, Calls Tryd.prog 17 #[.agg #[.int .i64 n, .string ⟨#[]⟩, .string ⟨#[]⟩, .slice none 0 0, .string ⟨#[]⟩, .string ⟨#[]⟩]] W _) at hright
    cases hrt : rightD (⟨n, ByteArray.empty, ByteArray.empty, [], ByteArray.empty, ByteArray.empty⟩ : DefV)
    · have HR : Hid (rdDef B e = (zeroD, 31, B1, 0)) := Lib.hid (by rw [rdDef, HP.out, if_neg (by simp)]; simp only; rw [hrt, if_neg (by simp)])
      rw [hrt] at hright
      clear hrt
      go_enter Tryd.func9, Tryd.ntmps9
      go_wp2_with (go_at_call 34; refine hnum.out.mono ?_; rintro e1' w1 ⟨rfl, hR1, hF1⟩; have HF1 := Lib.hid (((Fr.refl (fun k => k = g) w).alloc _).step hF1); have HR1 := Lib.hid hR1; obtain ⟨m0, m1, mz0, mz1, mg⟩ := hR1.facts; have hp1 := hF1.heap (heap_alloc_new w _) (by omega); have hg1 : w.heap.size < w1.heap.size := blk_lt hp1; have HP1 := Lib.hid hp1; clear hR1 hF1 hp1)
      have q0 : True := trivial
      have q1 := q0
      have q2 := q0
      have q3 := q0
      have q4 := q0
      have q5 := q0
      have HQa := Lib.hid (heap_alloc_new w1 (.cells #[.int .i64 n, .string ⟨#[]⟩, .string ⟨#[]⟩, .slice none 0 0, .string ⟨#[]⟩, .string ⟨#[]⟩] 31))
      have HPa := Lib.hid (blk_alloc HP1.out (.cells #[.int .i64 n, .string ⟨#[]⟩, .string ⟨#[]⟩, .slice none 0 0, .string ⟨#[]⟩, .string ⟨#[]⟩] 31))
      have HFa := Lib.hid (HF1.out.alloc (.cells #[.int .i64 n, .string ⟨#[]⟩, .string ⟨#[]⟩, .slice none 0 0, .string ⟨#[]⟩, .string ⟨#[]⟩] 31))
      have HRa := Lib.hid (HR1.out.fr ((Fr.refl (fun _ => False) w1).alloc (.cells #[.int .i64 n, .string ⟨#[]⟩, .string ⟨#[]⟩, .slice none 0 0, .string ⟨#[]⟩, .string ⟨#[]⟩] 31)) (fun h => h))
      generalize w1.alloc (.cells #[.int .i64 n, .string ⟨#[]⟩, .string ⟨#[]⟩, .slice none 0 0, .string ⟨#[]⟩, .string ⟨#[]⟩] 31) = wa at *
      refine (hright.out _).mono ?_
      rintro _ w7 ⟨rfl, hb7⟩
      have HPX := Lib.hid ((Fr.of_below (fun _ => False) hb7).heap HPa.out (fun h => h))
      have HF7 := Lib.hid (HFa.out.then_below hb7)
      have HR7 := Lib.hid (HRa.out.fr (Fr.of_below (fun _ => False) hb7) (fun h => h))
      have hs7 := hb7.size
      clear hb7 q0 q1 q2 q3 q4 q5 m0 m1 mz0 mz1
      have p0 := blk_cell HPX.out 0
      have p1 := blk_cell HPX.out 1
      have p2 := blk_cell HPX.out 2
      have p3 := blk_cell HPX.out 3
      have p4 := blk_cell HPX.out 4
      have p5 := blk_cell HPX.out 5
      have y0 := blk_frozen HPX.out 0
      have y1 := blk_frozen HPX.out 1
      have y2 := blk_frozen HPX.out 2
      have y3 := blk_frozen HPX.out 3
      have y4 := blk_frozen HPX.out 4
      have y5 := blk_frozen HPX.out 5
      go_wp2_with fail
      have hb6 := six_blk HPX.out (.int .i64 0) (.string ⟨#[]⟩) (.string ⟨#[]⟩) (.slice none 0 0) (.string ⟨#[]⟩) (.string ⟨#[]⟩)
      have hf6 := six_fr w7 w.heap.size (.int .i64 0) (.string ⟨#[]⟩) (.string ⟨#[]⟩) (.slice none 0 0) (.string ⟨#[]⟩) (.string ⟨#[]⟩)
      unfold six at hb6 hf6
      have HF6 := Lib.hid (HF7.out.trans hf6 (fun k hk => .inr (by omega)))
      have HR6 := Lib.hid (HR7.out.fr hf6 (by omega))
      clear hf6
      have r0 := blk_cell hb6 0
      have r1 := blk_cell hb6 1
      have r2 := blk_cell hb6 2
      have r3 := blk_cell hb6 3
      have r4 := blk_cell hb6 4
      have r5 := blk_cell hb6 5
      clear hb6 p0 p1 p2 p3 p4 p5 y0 y1 y2 y3 y4 y5
      generalize ((((((w7.setCell ⟨w.heap.size, 0, none⟩ (.int .i64 0)).setCell ⟨w.heap.size, 1, none⟩ (.string ⟨#[]⟩)).setCell ⟨w.heap.size, 2, none⟩ (.string ⟨#[]⟩)).setCell ⟨w.heap.size, 3, none⟩ (.slice none 0 0)).setCell ⟨w.heap.size, 4, none⟩ (.string ⟨#[]⟩)).setCell ⟨w.heap.size, 5, none⟩ (.string ⟨#[]⟩)) = w6 at *
      rw [HR.out]
      refine bodyPost_ret (v := .tuple #[.agg #[.int .i64 0, .string ⟨#[]⟩, .string ⟨#[]⟩, .slice none 0 0, .string ⟨#[]⟩, .string ⟨#[]⟩], .int .i64 31]) ?_ rfl ?_
      · simp [results, Tryd.results9, go_sem, r0, r1, r2, r3, r4, r5]
      · exact ⟨none, 0, rfl, Nat.le_refl _, Kd.C_nil Kd.string w6, (fun _ h => nomatch h), HR6.out, HF6.out⟩
    · have HR : Hid (rdDef B e = ((⟨n, ByteArray.empty, ByteArray.empty, [], ByteArray.empty, ByteArray.empty⟩ : DefV), 0, B1, 0)) := Lib.hid (by rw [rdDef, HP.out, if_neg (by simp)]; simp only; rw [hrt, if_pos rfl])
      rw [hrt] at hright
      clear hrt
      go_enter Tryd.func9, Tryd.ntmps9
      go_wp2_with (go_at_call 34; refine hnum.out.mono ?_; rintro e1' w1 ⟨rfl, hR1, hF1⟩; have HF1 := Lib.hid (((Fr.refl (fun k => k = g) w).alloc _).step hF1); have HR1 := Lib.hid hR1; obtain ⟨m0, m1, mz0, mz1, mg⟩ := hR1.facts; have hp1 := hF1.heap (heap_alloc_new w _) (by omega); have hg1 : w.heap.size < w1.heap.size := blk_lt hp1; have HP1 := Lib.hid hp1; clear hR1 hF1 hp1)
      have q0 : True := trivial
      have q1 := q0
      have q2 := q0
      have q3 := q0
      have q4 := q0
      have q5 := q0
      have HQa := Lib.hid (heap_alloc_new w1 (.cells #[.int .i64 n, .string ⟨#[]⟩, .string ⟨#[]⟩, .slice none 0 0, .string ⟨#[]⟩, .string ⟨#[]⟩] 31))
      have HPa := Lib.hid (blk_alloc HP1.out (.cells #[.int .i64 n, .string ⟨#[]⟩, .string ⟨#[]⟩, .slice none 0 0, .string ⟨#[]⟩, .string ⟨#[]⟩] 31))
      have HFa := Lib.hid (HF1.out.alloc (.cells #[.int .i64 n, .string ⟨#[]⟩, .string ⟨#[]⟩, .slice none 0 0, .string ⟨#[]⟩, .string ⟨#[]⟩] 31))
      have HRa := Lib.hid (HR1.out.fr ((Fr.refl (fun _ => False) w1).alloc (.cells #[.int .i64 n, .string ⟨#[]⟩, .string ⟨#[]⟩, .slice none 0 0, .string ⟨#[]⟩, .string ⟨#[]⟩] 31)) (fun h => h))
      generalize w1.alloc (.cells #[.int .i64 n, .string ⟨#[]⟩, .string ⟨#[]⟩, .slice none 0 0, .string ⟨#[]⟩, .string ⟨#[]⟩] 31) = wa at *
      refine (hright.out _).mono ?_
      rintro _ w7 ⟨rfl, hb7⟩
      have HPX := Lib.hid ((Fr.of_below (fun _ => False) hb7).heap HPa.out (fun h => h))
      have hqx := (Fr.of_below (fun _ => False) hb7).heap HQa.out (fun h => h)
      have HF7 := Lib.hid (HFa.out.then_below hb7)
      have HR7 := Lib.hid (HRa.out.fr (Fr.of_below (fun _ => False) hb7) (fun h => h))
      have hs7 := hb7.size
      clear q0 q1 q2 q3 q4 q5 m0 m1 mz0 mz1
      have q0 := blk_cell hqx 0
      have q1 := blk_cell hqx 1
      have q2 := blk_cell hqx 2
      have q3 := blk_cell hqx 3
      have q4 := blk_cell hqx 4
      have q5 := blk_cell hqx 5
      clear hqx hb7
      have p0 := blk_cell HPX.out 0
      have p1 := blk_cell HPX.out 1
      have p2 := blk_cell HPX.out 2
      have p3 := blk_cell HPX.out 3
      have p4 := blk_cell HPX.out 4
      have p5 := blk_cell HPX.out 5
      have y0 := blk_frozen HPX.out 0
      have y1 := blk_frozen HPX.out 1
      have y2 := blk_frozen HPX.out 2
      have y3 := blk_frozen HPX.out 3
      have y4 := blk_frozen HPX.out 4
      have y5 := blk_frozen HPX.out 5
      go_wp2_with fail
      have hb6 := six_blk HPX.out (.int .i64 n) (.string ⟨#[]⟩) (.string ⟨#[]⟩) (.slice none 0 0) (.string ⟨#[]⟩) (.string ⟨#[]⟩)
      have hf6 := six_fr w7 w.heap.size (.int .i64 n) (.string ⟨#[]⟩) (.string ⟨#[]⟩) (.slice none 0 0) (.string ⟨#[]⟩) (.string ⟨#[]⟩)
      unfold six at hb6 hf6
      have HF6 := Lib.hid (HF7.out.trans hf6 (fun k hk => .inr (by omega)))
      have HR6 := Lib.hid (HR7.out.fr hf6 (by omega))
      clear hf6
      have r0 := blk_cell hb6 0
      have r1 := blk_cell hb6 1
      have r2 := blk_cell hb6 2
      have r3 := blk_cell hb6 3
      have r4 := blk_cell hb6 4
      have r5 := blk_cell hb6 5
      clear hb6 p0 p1 p2 p3 p4 p5 y0 y1 y2 y3 y4 y5
      generalize ((((((w7.setCell ⟨w.heap.size, 0, none⟩ (.int .i64 n)).setCell ⟨w.heap.size, 1, none⟩ (.string ⟨#[]⟩)).setCell ⟨w.heap.size, 2, none⟩ (.string ⟨#[]⟩)).setCell ⟨w.heap.size, 3, none⟩ (.slice none 0 0)).setCell ⟨w.heap.size, 4, none⟩ (.string ⟨#[]⟩)).setCell ⟨w.heap.size, 5, none⟩ (.string ⟨#[]⟩)) = w6 at *
      rw [HR.out]
      refine bodyPost_ret (v := .tuple #[.agg #[.int .i64 n, .string ⟨#[]⟩, .string ⟨#[]⟩, .slice none 0 0, .string ⟨#[]⟩, .string ⟨#[]⟩], .int .i64 0]) ?_ rfl ?_
      · simp [results, Tryd.results9, go_sem, r0, r1, r2, r3, r4, r5]
      · exact ⟨none, 0, rfl, Nat.le_refl _, Kd.C_nil Kd.string w6, (fun _ h => nomatch h), HR6.out, HF6.out⟩
  · have he1' : (e1 == 0) = false := beq_eq_false_iff_ne.2 he4
    have he2' : (e1 != 0) = true := bne_iff_ne.2 he4
    have HR : Hid (rdDef B e = (zeroD, e1, B1, e1)) := Lib.hid (by rw [rdDef, HP.out, if_pos he4])
    clear he4
    go_enter Tryd.func9, Tryd.ntmps9
    go_wp2_with (go_at_call 34; refine hnum.out.mono ?_; rintro e1' w1 ⟨rfl, hR1, hF1⟩; have HF1 := Lib.hid (((Fr.refl (fun k => k = g) w).alloc _).step hF1); have HR1 := Lib.hid hR1; obtain ⟨m0, m1, mz0, mz1, mg⟩ := hR1.facts; have hp1 := hF1.heap (heap_alloc_new w _) (by omega); have hg1 : w.heap.size < w1.heap.size := blk_lt hp1; have HP1 := Lib.hid hp1; clear hR1 hF1 hp1)
    have q0 : True := trivial
    have q1 := q0
    have q2 := q0
    have q3 := q0
    have q4 := q0
    have q5 := q0
    have HQa := Lib.hid (heap_alloc_new w1 (.cells #[.int .i64 n, .string ⟨#[]⟩, .string ⟨#[]⟩, .slice none 0 0, .string ⟨#[]⟩, .string ⟨#[]⟩] 31))
    have HPa := Lib.hid (blk_alloc HP1.out (.cells #[.int .i64 n, .string ⟨#[]⟩, .string ⟨#[]⟩, .slice none 0 0, .string ⟨#[]⟩, .string ⟨#[]⟩] 31))
    have HFa := Lib.hid (HF1.out.alloc (.cells #[.int .i64 n, .string ⟨#[]⟩, .string ⟨#[]⟩, .slice none 0 0, .string ⟨#[]⟩, .string ⟨#[]⟩] 31))
    have HRa := Lib.hid (HR1.out.fr ((Fr.refl (fun _ => False) w1).alloc (.cells #[.int .i64 n, .string ⟨#[]⟩, .string ⟨#[]⟩, .slice none 0 0, .string ⟨#[]⟩, .string ⟨#[]⟩] 31)) (fun h => h))
    have HPX := HPa
    have p0 := blk_cell HPX.out 0
    have p1 := blk_cell HPX.out 1
    have p2 := blk_cell HPX.out 2
    have p3 := blk_cell HPX.out 3
    have p4 := blk_cell HPX.out 4
    have p5 := blk_cell HPX.out 5
    have y0 := blk_frozen HPX.out 0
    have y1 := blk_frozen HPX.out 1
    have y2 := blk_frozen HPX.out 2
    have y3 := blk_frozen HPX.out 3
    have y4 := blk_frozen HPX.out 4
    have y5 := blk_frozen HPX.out 5
    generalize w1.alloc (.cells #[.int .i64 n, .string ⟨#[]⟩, .string ⟨#[]⟩, .slice none 0 0, .string ⟨#[]⟩, .string ⟨#[]⟩] 31) = wa at *
    obtain ⟨n0, n1, nz0, nz1, ng⟩ := HRa.out.facts
    go_region
    go_wp2
    have hb6 := six_blk HPX.out (.int .i64 0) (.string ⟨#[]⟩) (.string ⟨#[]⟩) (.slice none 0 0) (.string ⟨#[]⟩) (.string ⟨#[]⟩)
    have hf6 := six_fr wa w.heap.size (.int .i64 0) (.string ⟨#[]⟩) (.string ⟨#[]⟩) (.slice none 0 0) (.string ⟨#[]⟩) (.string ⟨#[]⟩)
    unfold six at hb6 hf6
    have HF6 := Lib.hid (HFa.out.trans hf6 (fun k hk => .inr (by omega)))
    have HR6 := Lib.hid (HRa.out.fr hf6 (by omega))
    clear hf6
    have r0 := blk_cell hb6 0
    have r1 := blk_cell hb6 1
    have r2 := blk_cell hb6 2
    have r3 := blk_cell hb6 3
    have r4 := blk_cell hb6 4
    have r5 := blk_cell hb6 5
    clear hb6 p0 p1 p2 p3 p4 p5 y0 y1 y2 y3 y4 y5
    generalize ((((((wa.setCell ⟨w.heap.size, 0, none⟩ (.int .i64 0)).setCell ⟨w.heap.size, 1, none⟩ (.string ⟨#[]⟩)).setCell ⟨w.heap.size, 2, none⟩ (.string ⟨#[]⟩)).setCell ⟨w.heap.size, 3, none⟩ (.slice none 0 0)).setCell ⟨w.heap.size, 4, none⟩ (.string ⟨#[]⟩)).setCell ⟨w.heap.size, 5, none⟩ (.string ⟨#[]⟩)) = w6 at *
    rw [HR.out]
    refine bodyPost_ret (v := .tuple #[.agg #[.int .i64 0, .string ⟨#[]⟩, .string ⟨#[]⟩, .slice none 0 0, .string ⟨#[]⟩, .string ⟨#[]⟩], .int .i64 e1]) ?_ rfl ?_
    · simp [results, Tryd.results9, go_sem, r0, r1, r2, r3, r4, r5]
    · exact ⟨none, 0, rfl, Nat.le_refl _, Kd.C_nil Kd.string w6.drew, (fun _ h => nomatch h), blk_drew HR6.out, HF6.out.drew⟩
end Go.Proofs.YtoiaancehakiiaaDoor.Q
