/- The walk of def.Read, by hand: for every state of a reader of fewer than 4294967281 octets. -/
import Derived.Test.YtoiaancehakiiaaDoorMOpen
import Derived.Test.YtoiaancehakiiaaDoorMTexts
import Derived.Test.YtoiaancehakiiaaDoorPlainDef
import Derived.Test.YtoiaancehakiiaaDoorQ2
namespace Go.Proofs.YtoiaancehakiiaaDoor.Q
open Go.RowKit Go.Proofs.YtoiaancehakiiaaDoor.Plain Go.Proofs.YtoiaancehakiiaaDoorW.PrintWords

def defVal (d : DefV) (A : Option Addr) (c : Nat) : Value := .agg #[.int .i64 d.kind, .string d.cls, .string d.sup, .slice A d.vars.length c, .string d.sel, .string d.src]
def ReadPost (w : World) (g : Nat) (d : DefV) (code : Int) (B : ByteArray) (x : Int) (e : Ending) (w' : World) : Prop :=
  ∃ A c, e = .returned (.tuple #[defVal d A c, .int .i64 code]) ∧ d.vars.length ≤ c ∧ Kd.string.C w' A d.vars.length d.vars ∧ (∀ ad, A = some ad → w.heap.size ≤ ad.block) ∧ Rd w' g B x ∧ Fr (fun k => k = g) w w'

def six (w : World) (p : Nat) (v0 v1 v2 v3 v4 v5 : Value) : World := (((((w.setCell ⟨p, 0, none⟩ v0).setCell ⟨p, 1, none⟩ v1).setCell ⟨p, 2, none⟩ v2).setCell ⟨p, 3, none⟩ v3).setCell ⟨p, 4, none⟩ v4).setCell ⟨p, 5, none⟩ v5
theorem six_blk {w : World} {p : Nat} {T : TypeId} {u0 u1 u2 u3 u4 u5 : Value} (h : w.heap[p]? = some (.cells #[u0, u1, u2, u3, u4, u5] T (0, 0))) (v0 v1 v2 v3 v4 v5 : Value) : (six w p v0 v1 v2 v3 v4 v5).heap[p]? = some (.cells #[v0, v1, v2, v3, v4, v5] T (0, 0)) := by
  have := blk_set (blk_set (blk_set (blk_set (blk_set (blk_set h 0 v0) 1 v1) 2 v2) 3 v3) 4 v4) 5 v5
  simpa [six] using this
theorem six_fr (w : World) (p : Nat) (v0 v1 v2 v3 v4 v5 : Value) : Fr (fun k => k = p) w (six w p v0 v1 v2 v3 v4 v5) :=
  (((((Fr.set_ (S := fun k => k = p) w ⟨p, 0, none⟩ v0 rfl).setCell ⟨p, 1, none⟩ v1 rfl).setCell ⟨p, 2, none⟩ v2 rfl).setCell ⟨p, 3, none⟩ v3 rfl).setCell ⟨p, 4, none⟩ v4 rfl).setCell ⟨p, 5, none⟩ v5 rfl

theorem rdText_vsize (B : ByteArray) (e : Int) : (rdText B e).1.size ≤ B.size := by
  unfold rdText
  split
  · exact Nat.zero_le _
  split
  · exact Nat.zero_le _
  · have := (rdNum_nonneg B e).2.2
    simp only [ByteArray.size_extract]
    omega
theorem rdText_ssize (B : ByteArray) (e : Int) : (rdText B e).2.1.size ≤ B.size := by
  unfold rdText
  split
  · exact Nat.le_refl _
  split
  · exact Nat.le_refl _
  · have := (rdNum_nonneg B e).2.2
    simp only [cutB_size]
    omega

set_option maxRecDepth 100000 in
set_option maxHeartbeats 4000000 in
theorem read_calls (g : Nat) (B : ByteArray) (e : Int) (w : World) (h : Rd w g B e) (hs : B.size < 4294967281) :
    Calls Tryd.prog 8 #[.pointer (some ⟨g, 0, none⟩)] w (ReadPost w g (rdDef B e).1 (rdDef B e).2.1 (rdDef B e).2.2.1 (rdDef B e).2.2.2) := by
  have hg := h.lt
  have h' : Rd (w.alloc (.cells #[.int .i64 0, .string ⟨#[]⟩, .string ⟨#[]⟩, .slice none 0 0, .string ⟨#[]⟩, .string ⟨#[]⟩] 31)) g B e := h.fr ((Fr.refl (fun _ => False) w).alloc _) (fun k hk => hk.elim)
  have hnum := num_calls g B e _ h'
  have H := Lib.hid h
  obtain ⟨n, B1, e1, hn⟩ : ∃ n B1 e1, rdNum B e = (n, B1, e1) := ⟨_, _, _, rfl⟩
  have HN := Lib.hid hn
  have hsz1 := (rdNum_nonneg B e).2.2
  rw [hn] at hnum hsz1
  have hnum := Lib.hid hnum
  clear h h' hn
  by_cases hn1 : n = 1
  · subst hn1
    obtain ⟨C, B2, e2, h2⟩ : ∃ C B2 e2, rdText B1 e1 = (C, B2, e2) := ⟨_, _, _, rfl⟩
    obtain ⟨S, B3, e3, h3⟩ : ∃ S B3 e3, rdText B2 e2 = (S, B3, e3) := ⟨_, _, _, rfl⟩
    obtain ⟨V, B4, e4, h4⟩ : ∃ V B4 e4, rdTexts B3 e3 = (V, B4, e4) := ⟨_, _, _, rfl⟩
    have HP : Hid (rdParts B e = (⟨1, C, S, V, ByteArray.empty, ByteArray.empty⟩, B4, e4)) := Lib.hid (rdParts_1 HN.out h2 h3 h4)
    have ht2 : Hid (∀ W, Rd W g B1 e1 → Calls Tryd.prog 31 #[.pointer (some ⟨g, 0, none⟩)] W (RdPost W g (.string C) B2 e2)) := Lib.hid (fun W hW => by have := text_calls g B1 e1 W hW; rw [h2] at this; exact this)
    have ht3 : Hid (∀ W, Rd W g B2 e2 → Calls Tryd.prog 31 #[.pointer (some ⟨g, 0, none⟩)] W (RdPost W g (.string S) B3 e3)) := Lib.hid (fun W hW => by have := text_calls g B2 e2 W hW; rw [h3] at this; exact this)
    have ht4 : Hid (∀ W, Rd W g B3 e3 → Calls Tryd.prog 32 #[.pointer (some ⟨g, 0, none⟩)] W (TextsPost W g V B4 e4)) := Lib.hid (fun W hW => by have := texts_calls g B3 e3 W hW; rw [h4] at this; exact this)
    clear h2 h3 h4
    go_enter Tryd.func8, Tryd.ntmps8
    go_wp2_with (go_at_call 27; refine hnum.out.mono ?_; rintro e1' w1 ⟨rfl, hR1, hF1⟩; have HF1 := Lib.hid (((Fr.refl (fun k => k = g) w).alloc _).step hF1); have HR1 := Lib.hid hR1; have hp1 := hF1.heap (heap_alloc_new w _) (by omega); have hg1 : w.heap.size < w1.heap.size := blk_lt hp1; have HP1 := Lib.hid hp1; clear hR1 hF1 hp1)
    refine (ht2.out _ (HR1.out.fr ((Fr.refl (fun _ => False) w1).alloc _) (fun k hk => hk.elim))).mono ?_
    rintro e2' w2 ⟨rfl, hR2, hF2⟩
    have hq2 := hF2.heap (heap_alloc_new w1 _) (by omega)
    have hp2 := hF2.heap (blk_alloc HP1.out _) (by omega)
    have HF2 := Lib.hid ((HF1.out.alloc _).step hF2)
    have HR2 := Lib.hid hR2
    have HQ2 := Lib.hid hq2
    have HP2 := Lib.hid hp2
    clear hR2 hF2 hq2 hp2
    go_wp2_with fail
    refine (ht3.out _ HR2.out).mono ?_
    rintro e3' w3 ⟨rfl, hR3, hF3⟩
    have HQ3 := Lib.hid (hF3.heap HQ2.out (by omega))
    have HP3 := Lib.hid (hF3.heap HP2.out (by omega))
    have HF3 := Lib.hid (HF2.out.step hF3)
    have HR3 := Lib.hid hR3
    clear hR3 hF3
    go_wp2_with fail
    refine (ht4.out _ HR3.out).mono ?_
    rintro e4' w4 ⟨A, c, rfl, hc, hC, hA, hR4, hF4⟩
    have hq4 := hF4.heap HQ3.out (by omega)
    have hp4 := hF4.heap HP3.out (by omega)
    have HF4 := Lib.hid (HF3.out.step hF4)
    have HR4 := Lib.hid hR4
    have HC := Lib.hid hC
    have HA := Lib.hid hA
    have HA5 : Hid (∀ ad, A = some ad → w.heap.size ≤ ad.block) := Lib.hid (fun ad ha => by have h1 := hA ad ha; have h2 := blk_lt HP3.out; omega)
    have HAP : Hid (∀ ad, A = some ad → w.heap.size < ad.block) := Lib.hid (fun ad ha => by have h1 := hA ad ha; have h2 := blk_lt HP3.out; omega)
    clear hC hA hR4 hF4
    have q1 := blk_cell hq4 1
    have q2 := blk_cell hq4 2
    have q3 := blk_cell hq4 3
    have z1 := blk_frozen hq4 1
    have z2 := blk_frozen hq4 2
    have z3 := blk_frozen hq4 3
    go_wp2_with fail
    have hq5 : (((w4.setCell ⟨w1.heap.size, 1, none⟩ (.string C)).setCell ⟨w1.heap.size, 2, none⟩ (.string S)).setCell ⟨w1.heap.size, 3, none⟩ (.slice A V.length c)).heap[w1.heap.size]? = some (.cells #[.int .i64 1, .string C, .string S, .slice A V.length c, .string ⟨#[]⟩, .string ⟨#[]⟩] 31 (0, 0)) := by
      have := blk_set (blk_set (blk_set hq4 1 (.string C)) 2 (.string S)) 3 (.slice A V.length c)
      simpa using this
    have hst : Fr (fun k => k = w1.heap.size) w4 (((w4.setCell ⟨w1.heap.size, 1, none⟩ (.string C)).setCell ⟨w1.heap.size, 2, none⟩ (.string S)).setCell ⟨w1.heap.size, 3, none⟩ (.slice A V.length c)) := ((Fr.set_ (S := fun k => k = w1.heap.size) w4 ⟨w1.heap.size, 1, none⟩ (.string C) rfl).setCell ⟨w1.heap.size, 2, none⟩ (.string S) rfl).setCell ⟨w1.heap.size, 3, none⟩ (.slice A V.length c) rfl
    have hp5 := hst.heap hp4 (by omega)
    have HF5 := Lib.hid (HF4.out.trans hst (fun k hk => .inr (by omega)))
    have HR5 := Lib.hid (HR4.out.fr hst (fun k hk => by omega))
    have HC5 := Lib.hid (hst.string HC.out (fun ad ha hn hk => by have h1 := HA.out ad ha; have h2 := blk_lt HQ3.out; omega))
    generalize (((w4.setCell ⟨w1.heap.size, 1, none⟩ (.string C)).setCell ⟨w1.heap.size, 2, none⟩ (.string S)).setCell ⟨w1.heap.size, 3, none⟩ (.slice A V.length c)) = w5 at *
    clear hst hq4 hp4 q1 q2 q3 z1 z2 z3
    have HQ5 := Lib.hid hq5
    have HP5 := Lib.hid hp5
    clear hq5 hp5
    have herr := Lib.hid (err_calls g B4 e4 w5 HR5.out)
    by_cases he4 : e4 = 0
    · subst he4
      have hright := Lib.hid (def_Right.calls 61 ((⟨1, C, S, V, ByteArray.empty, ByteArray.empty⟩ : DefV)).kind ((⟨1, C, S, V, ByteArray.empty, ByteArray.empty⟩ : DefV)).cls ((⟨1, C, S, V, ByteArray.empty, ByteArray.empty⟩ : DefV)).sup A c ((⟨1, C, S, V, ByteArray.empty, ByteArray.empty⟩ : DefV)).vars ((⟨1, C, S, V, ByteArray.empty, ByteArray.empty⟩ : DefV)).sel ((⟨1, C, S, V, ByteArray.empty, ByteArray.empty⟩ : DefV)).src (rightD (⟨1, C, S, V, ByteArray.empty, ByteArray.empty⟩ : DefV)) w5 HC5.out hc (right_ok 61 (⟨1, C, S, V, ByteArray.empty, ByteArray.empty⟩ : DefV) (by exact (by decide : (0 : Nat) < 4294967281)) (by decide)))
      change Hid (Calls Tryd.prog 33 #[.agg #[.int .i64 1, .string C, .string S, .slice A V.length c, .string ⟨#[]⟩, .string ⟨#[]⟩]] w5 _) at hright
      cases hrt : rightD (⟨1, C, S, V, ByteArray.empty, ByteArray.empty⟩ : DefV)
      · have HR : Hid (rdDef B e = (zeroD, 31, B4, 0)) := Lib.hid (by rw [rdDef, HP.out, if_neg (by simp)]; simp only; rw [hrt, if_neg (by simp)])
        rw [hrt] at hright
        clear hrt
        have q0 := blk_cell HQ5.out 0
        have q1 := blk_cell HQ5.out 1
        have q2 := blk_cell HQ5.out 2
        have q3 := blk_cell HQ5.out 3
        have q4 := blk_cell HQ5.out 4
        have q5 := blk_cell HQ5.out 5
        refine herr.out.mono ?_
        rintro _ _ ⟨rfl, rfl⟩
        go_wp2_with fail
        refine hright.out.mono ?_
        rintro _ w7 ⟨rfl, hb7⟩
        have HPX := Lib.hid ((Fr.of_below (fun _ => False) hb7).heap HP5.out (fun h => h))
        have HF7 := Lib.hid (HF5.out.then_below hb7)
        have HR7 := Lib.hid (HR5.out.fr (Fr.of_below (fun _ => False) hb7) (fun k hk => hk.elim))
        have hs7 := hb7.size
        clear hb7 q0 q1 q2 q3 q4 q5
        have p0 := blk_cell HPX.out 0
        have p1 := blk_cell HPX.out 1
        have p2 := blk_cell HPX.out 2
        have p3 := blk_cell HPX.out 3
        have p4 := blk_cell HPX.out 4
        have p5 := blk_cell HPX.out 5
        have y0 := blk_frozen HPX.out 0
        have y1 := blk_frozen HPX.out 1
        have y2 := blk_frozen HPX.out 2
        have y3 := blk_frozen HPX.out 3
        have y4 := blk_frozen HPX.out 4
        have y5 := blk_frozen HPX.out 5
        go_wp2_with fail
        have hb6 := six_blk HPX.out (.int .i64 0) (.string ⟨#[]⟩) (.string ⟨#[]⟩) (.slice none 0 0) (.string ⟨#[]⟩) (.string ⟨#[]⟩)
        have hf6 := six_fr w7 w.heap.size (.int .i64 0) (.string ⟨#[]⟩) (.string ⟨#[]⟩) (.slice none 0 0) (.string ⟨#[]⟩) (.string ⟨#[]⟩)
        unfold six at hb6 hf6
        have HF6 := Lib.hid (HF7.out.trans hf6 (fun k hk => .inr (by omega)))
        have HR6 := Lib.hid (HR7.out.fr hf6 (fun k hk => by omega))
        clear hf6
        have r0 := blk_cell hb6 0
        have r1 := blk_cell hb6 1
        have r2 := blk_cell hb6 2
        have r3 := blk_cell hb6 3
        have r4 := blk_cell hb6 4
        have r5 := blk_cell hb6 5
        clear hb6 p0 p1 p2 p3 p4 p5 y0 y1 y2 y3 y4 y5
        generalize ((((((w7.setCell ⟨w.heap.size, 0, none⟩ (.int .i64 0)).setCell ⟨w.heap.size, 1, none⟩ (.string ⟨#[]⟩)).setCell ⟨w.heap.size, 2, none⟩ (.string ⟨#[]⟩)).setCell ⟨w.heap.size, 3, none⟩ (.slice none 0 0)).setCell ⟨w.heap.size, 4, none⟩ (.string ⟨#[]⟩)).setCell ⟨w.heap.size, 5, none⟩ (.string ⟨#[]⟩)) = w6 at *
        rw [HR.out]
        refine bodyPost_ret (v := .tuple #[.agg #[.int .i64 0, .string ⟨#[]⟩, .string ⟨#[]⟩, .slice none 0 0, .string ⟨#[]⟩, .string ⟨#[]⟩], .int .i64 31]) ?_ rfl ?_
        · simp [results, Tryd.results8, go_sem, r0, r1, r2, r3, r4, r5]
        · exact ⟨none, 0, rfl, Nat.le_refl _, Kd.C_nil Kd.string w6, (fun _ h => nomatch h), HR6.out, HF6.out⟩
      · have HR : Hid (rdDef B e = ((⟨1, C, S, V, ByteArray.empty, ByteArray.empty⟩ : DefV), 0, B4, 0)) := Lib.hid (by rw [rdDef, HP.out, if_neg (by simp)]; simp only; rw [hrt, if_pos rfl])
        rw [hrt] at hright
        clear hrt
        have q0 := blk_cell HQ5.out 0
        have q1 := blk_cell HQ5.out 1
        have q2 := blk_cell HQ5.out 2
        have q3 := blk_cell HQ5.out 3
        have q4 := blk_cell HQ5.out 4
        have q5 := blk_cell HQ5.out 5
        refine herr.out.mono ?_
        rintro _ _ ⟨rfl, rfl⟩
        go_wp2_with fail
        refine hright.out.mono ?_
        rintro _ w7 ⟨rfl, hb7⟩
        have HPX := Lib.hid ((Fr.of_below (fun _ => False) hb7).heap HP5.out (fun h => h))
        have hqx := (Fr.of_below (fun _ => False) hb7).heap HQ5.out (fun h => h)
        have HF7 := Lib.hid (HF5.out.then_below hb7)
        have HR7 := Lib.hid (HR5.out.fr (Fr.of_below (fun _ => False) hb7) (fun k hk => hk.elim))
        have hs7 := hb7.size
        have HC7 := Lib.hid (Kd.C_below HC5.out hb7)
        clear q0 q1 q2 q3 q4 q5
        have q0 := blk_cell hqx 0
        have q1 := blk_cell hqx 1
        have q2 := blk_cell hqx 2
        have q3 := blk_cell hqx 3
        have q4 := blk_cell hqx 4
        have q5 := blk_cell hqx 5
        clear hqx hb7
        have p0 := blk_cell HPX.out 0
        have p1 := blk_cell HPX.out 1
        have p2 := blk_cell HPX.out 2
        have p3 := blk_cell HPX.out 3
        have p4 := blk_cell HPX.out 4
        have p5 := blk_cell HPX.out 5
        have y0 := blk_frozen HPX.out 0
        have y1 := blk_frozen HPX.out 1
        have y2 := blk_frozen HPX.out 2
        have y3 := blk_frozen HPX.out 3
        have y4 := blk_frozen HPX.out 4
        have y5 := blk_frozen HPX.out 5
        go_wp2_with fail
        have hb6 := six_blk HPX.out (.int .i64 1) (.string C) (.string S) (.slice A V.length c) (.string ⟨#[]⟩) (.string ⟨#[]⟩)
        have hf6 := six_fr w7 w.heap.size (.int .i64 1) (.string C) (.string S) (.slice A V.length c) (.string ⟨#[]⟩) (.string ⟨#[]⟩)
        unfold six at hb6 hf6
        have HF6 := Lib.hid (HF7.out.trans hf6 (fun k hk => .inr (by omega)))
        have HR6 := Lib.hid (HR7.out.fr hf6 (fun k hk => by omega))
        have HC6 := Lib.hid (hf6.string HC7.out (fun ad ha hn hk => by have h1 := HA5.out ad ha; have h2 := blk_lt HP1.out; have h3 := HAP.out ad ha; omega))
        clear hf6
        have r0 := blk_cell hb6 0
        have r1 := blk_cell hb6 1
        have r2 := blk_cell hb6 2
        have r3 := blk_cell hb6 3
        have r4 := blk_cell hb6 4
        have r5 := blk_cell hb6 5
        clear hb6 p0 p1 p2 p3 p4 p5 y0 y1 y2 y3 y4 y5
        generalize ((((((w7.setCell ⟨w.heap.size, 0, none⟩ (.int .i64 1)).setCell ⟨w.heap.size, 1, none⟩ (.string C)).setCell ⟨w.heap.size, 2, none⟩ (.string S)).setCell ⟨w.heap.size, 3, none⟩ (.slice A V.length c)).setCell ⟨w.heap.size, 4, none⟩ (.string ⟨#[]⟩)).setCell ⟨w.heap.size, 5, none⟩ (.string ⟨#[]⟩)) = w6 at *
        rw [HR.out]
        refine bodyPost_ret (v := .tuple #[.agg #[.int .i64 1, .string C, .string S, .slice A V.length c, .string ⟨#[]⟩, .string ⟨#[]⟩], .int .i64 0]) ?_ rfl ?_
        · simp [results, Tryd.results8, go_sem, r0, r1, r2, r3, r4, r5]
        · exact ⟨A, c, rfl, hc, HC6.out, HA5.out, HR6.out, HF6.out⟩
    · have he1' : (e4 == 0) = false := beq_eq_false_iff_ne.2 he4
      have he2' : (e4 != 0) = true := bne_iff_ne.2 he4
      have HR : Hid (rdDef B e = (zeroD, e4, B4, e4)) := Lib.hid (by rw [rdDef, HP.out, if_pos he4])
      have HPX := HP5
      clear he4
      have p0 := blk_cell HPX.out 0
      have p1 := blk_cell HPX.out 1
      have p2 := blk_cell HPX.out 2
      have p3 := blk_cell HPX.out 3
      have p4 := blk_cell HPX.out 4
      have p5 := blk_cell HPX.out 5
      have y0 := blk_frozen HPX.out 0
      have y1 := blk_frozen HPX.out 1
      have y2 := blk_frozen HPX.out 2
      have y3 := blk_frozen HPX.out 3
      have y4 := blk_frozen HPX.out 4
      have y5 := blk_frozen HPX.out 5
      refine herr.out.mono ?_
      rintro _ _ ⟨rfl, rfl⟩
      go_wp2_with (go_at_call 12; refine herr.out.mono ?_; rintro _ _ ⟨rfl, rfl⟩)
      have hb6 := six_blk HPX.out (.int .i64 0) (.string ⟨#[]⟩) (.string ⟨#[]⟩) (.slice none 0 0) (.string ⟨#[]⟩) (.string ⟨#[]⟩)
      have hf6 := six_fr w5 w.heap.size (.int .i64 0) (.string ⟨#[]⟩) (.string ⟨#[]⟩) (.slice none 0 0) (.string ⟨#[]⟩) (.string ⟨#[]⟩)
      unfold six at hb6 hf6
      have HF6 := Lib.hid (HF5.out.trans hf6 (fun k hk => .inr (by omega)))
      have HR6 := Lib.hid (HR5.out.fr hf6 (fun k hk => by omega))
      clear hf6
      have r0 := blk_cell hb6 0
      have r1 := blk_cell hb6 1
      have r2 := blk_cell hb6 2
      have r3 := blk_cell hb6 3
      have r4 := blk_cell hb6 4
      have r5 := blk_cell hb6 5
      clear hb6 p0 p1 p2 p3 p4 p5 y0 y1 y2 y3 y4 y5
      generalize ((((((w5.setCell ⟨w.heap.size, 0, none⟩ (.int .i64 0)).setCell ⟨w.heap.size, 1, none⟩ (.string ⟨#[]⟩)).setCell ⟨w.heap.size, 2, none⟩ (.string ⟨#[]⟩)).setCell ⟨w.heap.size, 3, none⟩ (.slice none 0 0)).setCell ⟨w.heap.size, 4, none⟩ (.string ⟨#[]⟩)).setCell ⟨w.heap.size, 5, none⟩ (.string ⟨#[]⟩)) = w6 at *
      rw [HR.out]
      refine bodyPost_ret (v := .tuple #[.agg #[.int .i64 0, .string ⟨#[]⟩, .string ⟨#[]⟩, .slice none 0 0, .string ⟨#[]⟩, .string ⟨#[]⟩], .int .i64 e4]) ?_ rfl ?_
      · simp [results, Tryd.results8, go_sem, r0, r1, r2, r3, r4, r5]
      · exact ⟨none, 0, rfl, Nat.le_refl _, Kd.C_nil Kd.string w6, (fun _ h => nomatch h), HR6.out, HF6.out⟩
  by_cases hn2 : n = 2
  · subst hn2
    obtain ⟨C, B2, e2, h2⟩ : ∃ C B2 e2, rdText B1 e1 = (C, B2, e2) := ⟨_, _, _, rfl⟩
    obtain ⟨S, B3, e3, h3⟩ : ∃ S B3 e3, rdText B2 e2 = (S, B3, e3) := ⟨_, _, _, rfl⟩
    obtain ⟨V, B4, e4, h4⟩ : ∃ V B4 e4, rdText B3 e3 = (V, B4, e4) := ⟨_, _, _, rfl⟩
    have HP : Hid (rdParts B e = (⟨2, C, ByteArray.empty, [], S, V⟩, B4, e4)) := Lib.hid (rdParts_2 HN.out h2 h3 h4)
    have ht2 : Hid (∀ W, Rd W g B1 e1 → Calls Tryd.prog 31 #[.pointer (some ⟨g, 0, none⟩)] W (RdPost W g (.string C) B2 e2)) := Lib.hid (fun W hW => by have := text_calls g B1 e1 W hW; rw [h2] at this; exact this)
    have ht3 : Hid (∀ W, Rd W g B2 e2 → Calls Tryd.prog 31 #[.pointer (some ⟨g, 0, none⟩)] W (RdPost W g (.string S) B3 e3)) := Lib.hid (fun W hW => by have := text_calls g B2 e2 W hW; rw [h3] at this; exact this)
    have ht4 : Hid (∀ W, Rd W g B3 e3 → Calls Tryd.prog 31 #[.pointer (some ⟨g, 0, none⟩)] W (RdPost W g (.string V) B4 e4)) := Lib.hid (fun W hW => by have := text_calls g B3 e3 W hW; rw [h4] at this; exact this)
    have hS : S.size < 4294967281 := by
      have a := rdText_ssize B1 e1
      have b := rdText_vsize B2 e2
      rw [h2] at a
      rw [h3] at b
      simp only at a b hsz1
      omega
    clear h2 h3 h4
    go_enter Tryd.func8, Tryd.ntmps8
    go_wp2_with (go_at_call 27; refine hnum.out.mono ?_; rintro e1' w1 ⟨rfl, hR1, hF1⟩; have HF1 := Lib.hid (((Fr.refl (fun k => k = g) w).alloc _).step hF1); have HR1 := Lib.hid hR1; have hp1 := hF1.heap (heap_alloc_new w _) (by omega); have hg1 : w.heap.size < w1.heap.size := blk_lt hp1; have HP1 := Lib.hid hp1; clear hR1 hF1 hp1)
    refine (ht2.out _ (HR1.out.fr ((Fr.refl (fun _ => False) w1).alloc _) (fun k hk => hk.elim))).mono ?_
    rintro e2' w2 ⟨rfl, hR2, hF2⟩
    have hq2 := hF2.heap (heap_alloc_new w1 _) (by omega)
    have hp2 := hF2.heap (blk_alloc HP1.out _) (by omega)
    have HF2 := Lib.hid ((HF1.out.alloc _).step hF2)
    have HR2 := Lib.hid hR2
    have HQ2 := Lib.hid hq2
    have HP2 := Lib.hid hp2
    clear hR2 hF2 hq2 hp2
    go_wp2_with fail
    refine (ht3.out _ HR2.out).mono ?_
    rintro e3' w3 ⟨rfl, hR3, hF3⟩
    have HQ3 := Lib.hid (hF3.heap HQ2.out (by omega))
    have HP3 := Lib.hid (hF3.heap HP2.out (by omega))
    have HF3 := Lib.hid (HF2.out.step hF3)
    have HR3 := Lib.hid hR3
    clear hR3 hF3
    go_wp2_with fail
    refine (ht4.out _ HR3.out).mono ?_
    rintro e4' w4 ⟨rfl, hR4, hF4⟩
    have hq4 := hF4.heap HQ3.out (by omega)
    have hp4 := hF4.heap HP3.out (by omega)
    have HF4 := Lib.hid (HF3.out.step hF4)
    have HR4 := Lib.hid hR4
    clear hR4 hF4
    have q1 := blk_cell hq4 1
    have q2 := blk_cell hq4 4
    have q3 := blk_cell hq4 5
    have z1 := blk_frozen hq4 1
    have z2 := blk_frozen hq4 4
    have z3 := blk_frozen hq4 5
    go_wp2_with fail
    have hq5 : (((w4.setCell ⟨w1.heap.size, 1, none⟩ (.string C)).setCell ⟨w1.heap.size, 4, none⟩ (.string S)).setCell ⟨w1.heap.size, 5, none⟩ (.string V)).heap[w1.heap.size]? = some (.cells #[.int .i64 2, .string C, .string ⟨#[]⟩, .slice none 0 0, .string S, .string V] 31 (0, 0)) := by
      have := blk_set (blk_set (blk_set hq4 1 (.string C)) 4 (.string S)) 5 (.string V)
      simpa using this
    have hst : Fr (fun k => k = w1.heap.size) w4 (((w4.setCell ⟨w1.heap.size, 1, none⟩ (.string C)).setCell ⟨w1.heap.size, 4, none⟩ (.string S)).setCell ⟨w1.heap.size, 5, none⟩ (.string V)) := ((Fr.set_ (S := fun k => k = w1.heap.size) w4 ⟨w1.heap.size, 1, none⟩ (.string C) rfl).setCell ⟨w1.heap.size, 4, none⟩ (.string S) rfl).setCell ⟨w1.heap.size, 5, none⟩ (.string V) rfl
    have hp5 := hst.heap hp4 (by omega)
    have HF5 := Lib.hid (HF4.out.trans hst (fun k hk => .inr (by omega)))
    have HR5 := Lib.hid (HR4.out.fr hst (fun k hk => by omega))
    generalize (((w4.setCell ⟨w1.heap.size, 1, none⟩ (.string C)).setCell ⟨w1.heap.size, 4, none⟩ (.string S)).setCell ⟨w1.heap.size, 5, none⟩ (.string V)) = w5 at *
    clear hst hq4 hp4 q1 q2 q3 z1 z2 z3
    have HQ5 := Lib.hid hq5
    have HP5 := Lib.hid hp5
    clear hq5 hp5
    have herr := Lib.hid (err_calls g B4 e4 w5 HR5.out)
    by_cases he4 : e4 = 0
    · subst he4
      have hright := Lib.hid (def_Right.calls 61 ((⟨2, C, ByteArray.empty, [], S, V⟩ : DefV)).kind ((⟨2, C, ByteArray.empty, [], S, V⟩ : DefV)).cls ((⟨2, C, ByteArray.empty, [], S, V⟩ : DefV)).sup none 0 ((⟨2, C, ByteArray.empty, [], S, V⟩ : DefV)).vars ((⟨2, C, ByteArray.empty, [], S, V⟩ : DefV)).sel ((⟨2, C, ByteArray.empty, [], S, V⟩ : DefV)).src (rightD (⟨2, C, ByteArray.empty, [], S, V⟩ : DefV)) w5 (Kd.C_nil Kd.string w5) (Nat.le_refl _) (right_ok 61 (⟨2, C, ByteArray.empty, [], S, V⟩ : DefV) (by exact hS) (by decide)))
      change Hid (Calls Tryd.prog 33 #[.agg #[.int .i64 2, .string C, .string ⟨#[]⟩, .slice none 0 0, .string S, .string V]] w5 _) at hright
      cases hrt : rightD (⟨2, C, ByteArray.empty, [], S, V⟩ : DefV)
      · have HR : Hid (rdDef B e = (zeroD, 31, B4, 0)) := Lib.hid (by rw [rdDef, HP.out, if_neg (by simp)]; simp only; rw [hrt, if_neg (by simp)])
        rw [hrt] at hright
        clear hrt
        have q0 := blk_cell HQ5.out 0
        have q1 := blk_cell HQ5.out 1
        have q2 := blk_cell HQ5.out 2
        have q3 := blk_cell HQ5.out 3
        have q4 := blk_cell HQ5.out 4
        have q5 := blk_cell HQ5.out 5
        refine herr.out.mono ?_
        rintro _ _ ⟨rfl, rfl⟩
        go_wp2_with fail
        refine hright.out.mono ?_
        rintro _ w7 ⟨rfl, hb7⟩
        have HPX := Lib.hid ((Fr.of_below (fun _ => False) hb7).heap HP5.out (fun h => h))
        have HF7 := Lib.hid (HF5.out.then_below hb7)
        have HR7 := Lib.hid (HR5.out.fr (Fr.of_below (fun _ => False) hb7) (fun k hk => hk.elim))
        have hs7 := hb7.size
        clear hb7 q0 q1 q2 q3 q4 q5
        have p0 := blk_cell HPX.out 0
        have p1 := blk_cell HPX.out 1
        have p2 := blk_cell HPX.out 2
        have p3 := blk_cell HPX.out 3
        have p4 := blk_cell HPX.out 4
        have p5 := blk_cell HPX.out 5
        have y0 := blk_frozen HPX.out 0
        have y1 := blk_frozen HPX.out 1
        have y2 := blk_frozen HPX.out 2
        have y3 := blk_frozen HPX.out 3
        have y4 := blk_frozen HPX.out 4
        have y5 := blk_frozen HPX.out 5
        go_wp2_with fail
        have hb6 := six_blk HPX.out (.int .i64 0) (.string ⟨#[]⟩) (.string ⟨#[]⟩) (.slice none 0 0) (.string ⟨#[]⟩) (.string ⟨#[]⟩)
        have hf6 := six_fr w7 w.heap.size (.int .i64 0) (.string ⟨#[]⟩) (.string ⟨#[]⟩) (.slice none 0 0) (.string ⟨#[]⟩) (.string ⟨#[]⟩)
        unfold six at hb6 hf6
        have HF6 := Lib.hid (HF7.out.trans hf6 (fun k hk => .inr (by omega)))
        have HR6 := Lib.hid (HR7.out.fr hf6 (fun k hk => by omega))
        clear hf6
        have r0 := blk_cell hb6 0
        have r1 := blk_cell hb6 1
        have r2 := blk_cell hb6 2
        have r3 := blk_cell hb6 3
        have r4 := blk_cell hb6 4
        have r5 := blk_cell hb6 5
        clear hb6 p0 p1 p2 p3 p4 p5 y0 y1 y2 y3 y4 y5
        generalize ((((((w7.setCell ⟨w.heap.size, 0, none⟩ (.int .i64 0)).setCell ⟨w.heap.size, 1, none⟩ (.string ⟨#[]⟩)).setCell ⟨w.heap.size, 2, none⟩ (.string ⟨#[]⟩)).setCell ⟨w.heap.size, 3, none⟩ (.slice none 0 0)).setCell ⟨w.heap.size, 4, none⟩ (.string ⟨#[]⟩)).setCell ⟨w.heap.size, 5, none⟩ (.string ⟨#[]⟩)) = w6 at *
        rw [HR.out]
        refine bodyPost_ret (v := .tuple #[.agg #[.int .i64 0, .string ⟨#[]⟩, .string ⟨#[]⟩, .slice none 0 0, .string ⟨#[]⟩, .string ⟨#[]⟩], .int .i64 31]) ?_ rfl ?_
        · simp [results, Tryd.results8, go_sem, r0, r1, r2, r3, r4, r5]
        · exact ⟨none, 0, rfl, Nat.le_refl _, Kd.C_nil Kd.string w6, (fun _ h => nomatch h), HR6.out, HF6.out⟩
      · have HR : Hid (rdDef B e = ((⟨2, C, ByteArray.empty, [], S, V⟩ : DefV), 0, B4, 0)) := Lib.hid (by rw [rdDef, HP.out, if_neg (by simp)]; simp only; rw [hrt, if_pos rfl])
        rw [hrt] at hright
        clear hrt
        have q0 := blk_cell HQ5.out 0
        have q1 := blk_cell HQ5.out 1
        have q2 := blk_cell HQ5.out 2
        have q3 := blk_cell HQ5.out 3
        have q4 := blk_cell HQ5.out 4
        have q5 := blk_cell HQ5.out 5
        refine herr.out.mono ?_
        rintro _ _ ⟨rfl, rfl⟩
        go_wp2_with fail
        refine hright.out.mono ?_
        rintro _ w7 ⟨rfl, hb7⟩
        have HPX := Lib.hid ((Fr.of_below (fun _ => False) hb7).heap HP5.out (fun h => h))
        have hqx := (Fr.of_below (fun _ => False) hb7).heap HQ5.out (fun h => h)
        have HF7 := Lib.hid (HF5.out.then_below hb7)
        have HR7 := Lib.hid (HR5.out.fr (Fr.of_below (fun _ => False) hb7) (fun k hk => hk.elim))
        have hs7 := hb7.size
        clear q0 q1 q2 q3 q4 q5
        have q0 := blk_cell hqx 0
        have q1 := blk_cell hqx 1
        have q2 := blk_cell hqx 2
        have q3 := blk_cell hqx 3
        have q4 := blk_cell hqx 4
        have q5 := blk_cell hqx 5
        clear hqx hb7
        have p0 := blk_cell HPX.out 0
        have p1 := blk_cell HPX.out 1
        have p2 := blk_cell HPX.out 2
        have p3 := blk_cell HPX.out 3
        have p4 := blk_cell HPX.out 4
        have p5 := blk_cell HPX.out 5
        have y0 := blk_frozen HPX.out 0
        have y1 := blk_frozen HPX.out 1
        have y2 := blk_frozen HPX.out 2
        have y3 := blk_frozen HPX.out 3
        have y4 := blk_frozen HPX.out 4
        have y5 := blk_frozen HPX.out 5
        go_wp2_with fail
        have hb6 := six_blk HPX.out (.int .i64 2) (.string C) (.string ⟨#[]⟩) (.slice none 0 0) (.string S) (.string V)
        have hf6 := six_fr w7 w.heap.size (.int .i64 2) (.string C) (.string ⟨#[]⟩) (.slice none 0 0) (.string S) (.string V)
        unfold six at hb6 hf6
        have HF6 := Lib.hid (HF7.out.trans hf6 (fun k hk => .inr (by omega)))
        have HR6 := Lib.hid (HR7.out.fr hf6 (fun k hk => by omega))
        clear hf6
        have r0 := blk_cell hb6 0
        have r1 := blk_cell hb6 1
        have r2 := blk_cell hb6 2
        have r3 := blk_cell hb6 3
        have r4 := blk_cell hb6 4
        have r5 := blk_cell hb6 5
        clear hb6 p0 p1 p2 p3 p4 p5 y0 y1 y2 y3 y4 y5
        generalize ((((((w7.setCell ⟨w.heap.size, 0, none⟩ (.int .i64 2)).setCell ⟨w.heap.size, 1, none⟩ (.string C)).setCell ⟨w.heap.size, 2, none⟩ (.string ⟨#[]⟩)).setCell ⟨w.heap.size, 3, none⟩ (.slice none 0 0)).setCell ⟨w.heap.size, 4, none⟩ (.string S)).setCell ⟨w.heap.size, 5, none⟩ (.string V)) = w6 at *
        rw [HR.out]
        refine bodyPost_ret (v := .tuple #[.agg #[.int .i64 2, .string C, .string ⟨#[]⟩, .slice none 0 0, .string S, .string V], .int .i64 0]) ?_ rfl ?_
        · simp [results, Tryd.results8, go_sem, r0, r1, r2, r3, r4, r5]
        · exact ⟨none, 0, rfl, Nat.le_refl _, Kd.C_nil Kd.string w6, (fun _ h => nomatch h), HR6.out, HF6.out⟩
    · have he1' : (e4 == 0) = false := beq_eq_false_iff_ne.2 he4
      have he2' : (e4 != 0) = true := bne_iff_ne.2 he4
      have HR : Hid (rdDef B e = (zeroD, e4, B4, e4)) := Lib.hid (by rw [rdDef, HP.out, if_pos he4])
      have HPX := HP5
      clear he4
      have p0 := blk_cell HPX.out 0
      have p1 := blk_cell HPX.out 1
      have p2 := blk_cell HPX.out 2
      have p3 := blk_cell HPX.out 3
      have p4 := blk_cell HPX.out 4
      have p5 := blk_cell HPX.out 5
      have y0 := blk_frozen HPX.out 0
      have y1 := blk_frozen HPX.out 1
      have y2 := blk_frozen HPX.out 2
      have y3 := blk_frozen HPX.out 3
      have y4 := blk_frozen HPX.out 4
      have y5 := blk_frozen HPX.out 5
      refine herr.out.mono ?_
      rintro _ _ ⟨rfl, rfl⟩
      go_wp2_with (go_at_call 12; refine herr.out.mono ?_; rintro _ _ ⟨rfl, rfl⟩)
      have hb6 := six_blk HPX.out (.int .i64 0) (.string ⟨#[]⟩) (.string ⟨#[]⟩) (.slice none 0 0) (.string ⟨#[]⟩) (.string ⟨#[]⟩)
      have hf6 := six_fr w5 w.heap.size (.int .i64 0) (.string ⟨#[]⟩) (.string ⟨#[]⟩) (.slice none 0 0) (.string ⟨#[]⟩) (.string ⟨#[]⟩)
      unfold six at hb6 hf6
      have HF6 := Lib.hid (HF5.out.trans hf6 (fun k hk => .inr (by omega)))
      have HR6 := Lib.hid (HR5.out.fr hf6 (fun k hk => by omega))
      clear hf6
      have r0 := blk_cell hb6 0
      have r1 := blk_cell hb6 1
      have r2 := blk_cell hb6 2
      have r3 := blk_cell hb6 3
      have r4 := blk_cell hb6 4
      have r5 := blk_cell hb6 5
      clear hb6 p0 p1 p2 p3 p4 p5 y0 y1 y2 y3 y4 y5
      generalize ((((((w5.setCell ⟨w.heap.size, 0, none⟩ (.int .i64 0)).setCell ⟨w.heap.size, 1, none⟩ (.string ⟨#[]⟩)).setCell ⟨w.heap.size, 2, none⟩ (.string ⟨#[]⟩)).setCell ⟨w.heap.size, 3, none⟩ (.slice none 0 0)).setCell ⟨w.heap.size, 4, none⟩ (.string ⟨#[]⟩)).setCell ⟨w.heap.size, 5, none⟩ (.string ⟨#[]⟩)) = w6 at *
      rw [HR.out]
      refine bodyPost_ret (v := .tuple #[.agg #[.int .i64 0, .string ⟨#[]⟩, .string ⟨#[]⟩, .slice none 0 0, .string ⟨#[]⟩, .string ⟨#[]⟩], .int .i64 e4]) ?_ rfl ?_
      · simp [results, Tryd.results8, go_sem, r0, r1, r2, r3, r4, r5]
      · exact ⟨none, 0, rfl, Nat.le_refl _, Kd.C_nil Kd.string w6, (fun _ h => nomatch h), HR6.out, HF6.out⟩
  have HP : Hid (rdParts B e = (⟨n, ByteArray.empty, ByteArray.empty, [], ByteArray.empty, ByteArray.empty⟩, B1, e1)) := Lib.hid (rdParts_0 HN.out hn1 hn2)
  have hk1 : (n == 1) = false := beq_eq_false_iff_ne.2 hn1
  have hk2 : (n == 2) = false := beq_eq_false_iff_ne.2 hn2
  clear hn1 hn2
  go_enter Tryd.func8, Tryd.ntmps8
  go_wp2_with (go_at_call 27; refine hnum.out.mono ?_; rintro e1' w1 ⟨rfl, hR1, hF1⟩; have HF1 := Lib.hid (((Fr.refl (fun k => k = g) w).alloc _).step hF1); have HR1 := Lib.hid hR1; have hp1 := hF1.heap (heap_alloc_new w _) (by omega); have hg1 : w.heap.size < w1.heap.size := blk_lt hp1; have HP1 := Lib.hid hp1; clear hR1 hF1 hp1)
  have hq5 := heap_alloc_new w1 (.cells #[.int .i64 n, .string ⟨#[]⟩, .string ⟨#[]⟩, .slice none 0 0, .string ⟨#[]⟩, .string ⟨#[]⟩] 31)
  have HP5 := Lib.hid (blk_alloc HP1.out (.cells #[.int .i64 n, .string ⟨#[]⟩, .string ⟨#[]⟩, .slice none 0 0, .string ⟨#[]⟩, .string ⟨#[]⟩] 31))
  have HF5 := Lib.hid (HF1.out.alloc (.cells #[.int .i64 n, .string ⟨#[]⟩, .string ⟨#[]⟩, .slice none 0 0, .string ⟨#[]⟩, .string ⟨#[]⟩] 31))
  have HR5 := Lib.hid (HR1.out.fr ((Fr.refl (fun _ => False) w1).alloc (.cells #[.int .i64 n, .string ⟨#[]⟩, .string ⟨#[]⟩, .slice none 0 0, .string ⟨#[]⟩, .string ⟨#[]⟩] 31)) (fun k hk => hk.elim))
  generalize w1.alloc (.cells #[.int .i64 n, .string ⟨#[]⟩, .string ⟨#[]⟩, .slice none 0 0, .string ⟨#[]⟩, .string ⟨#[]⟩] 31) = w5 at *
  have HQ5 := Lib.hid hq5
  clear hq5
  have herr := Lib.hid (err_calls g B1 e1 w5 HR5.out)
  by_cases he4 : e1 = 0
  · subst he4
    have hright := Lib.hid (def_Right.calls 61 ((⟨n, ByteArray.empty, ByteArray.empty, [], ByteArray.empty, ByteArray.empty⟩ : DefV)).kind ((⟨n, ByteArray.empty, ByteArray.empty, [], ByteArray.empty, ByteArray.empty⟩ : DefV)).cls ((⟨n, ByteArray.empty, ByteArray.empty, [], ByteArray.empty, ByteArray.empty⟩ : DefV)).sup none 0 ((⟨n, ByteArray.empty, ByteArray.empty, [], ByteArray.empty, ByteArray.empty⟩ : DefV)).vars ((⟨n, ByteArray.empty, ByteArray.empty, [], ByteArray.empty, ByteArray.empty⟩ : DefV)).sel ((⟨n, ByteArray.empty, ByteArray.empty, [], ByteArray.empty, ByteArray.empty⟩ : DefV)).src (rightD (⟨n, ByteArray.empty, ByteArray.empty, [], ByteArray.empty, ByteArray.empty⟩ : DefV)) w5 (Kd.C_nil Kd.string w5) (Nat.le_refl _) (right_ok 61 (⟨n, ByteArray.empty, ByteArray.empty, [], ByteArray.empty, ByteArray.empty⟩ : DefV) (by exact (by decide : (0 : Nat) < 4294967281)) (by decide)))
    change Hid (Calls Tryd.prog 33 #[.agg #[.int .i64 n, .string ⟨#[]⟩, .string ⟨#[]⟩, .slice none 0 0, .string ⟨#[]⟩, .string ⟨#[]⟩]] w5 _) at hright
    cases hrt : rightD (⟨n, ByteArray.empty, ByteArray.empty, [], ByteArray.empty, ByteArray.empty⟩ : DefV)
    · have HR : Hid (rdDef B e = (zeroD, 31, B1, 0)) := Lib.hid (by rw [rdDef, HP.out, if_neg (by simp)]; simp only; rw [hrt, if_neg (by simp)])
      rw [hrt] at hright
      clear hrt
      have q0 := blk_cell HQ5.out 0
      have q1 := blk_cell HQ5.out 1
      have q2 := blk_cell HQ5.out 2
      have q3 := blk_cell HQ5.out 3
      have q4 := blk_cell HQ5.out 4
      have q5 := blk_cell HQ5.out 5
      refine herr.out.mono ?_
      rintro _ _ ⟨rfl, rfl⟩
      go_wp2_with fail
      refine hright.out.mono ?_
      rintro _ w7 ⟨rfl, hb7⟩
      have HPX := Lib.hid ((Fr.of_below (fun _ => False) hb7).heap HP5.out (fun h => h))
      have HF7 := Lib.hid (HF5.out.then_below hb7)
      have HR7 := Lib.hid (HR5.out.fr (Fr.of_below (fun _ => False) hb7) (fun k hk => hk.elim))
      have hs7 := hb7.size
      clear hb7 q0 q1 q2 q3 q4 q5
      have p0 := blk_cell HPX.out 0
      have p1 := blk_cell HPX.out 1
      have p2 := blk_cell HPX.out 2
      have p3 := blk_cell HPX.out 3
      have p4 := blk_cell HPX.out 4
      have p5 := blk_cell HPX.out 5
      have y0 := blk_frozen HPX.out 0
      have y1 := blk_frozen HPX.out 1
      have y2 := blk_frozen HPX.out 2
      have y3 := blk_frozen HPX.out 3
      have y4 := blk_frozen HPX.out 4
      have y5 := blk_frozen HPX.out 5
      go_wp2_with fail
      have hb6 := six_blk HPX.out (.int .i64 0) (.string ⟨#[]⟩) (.string ⟨#[]⟩) (.slice none 0 0) (.string ⟨#[]⟩) (.string ⟨#[]⟩)
      have hf6 := six_fr w7 w.heap.size (.int .i64 0) (.string ⟨#[]⟩) (.string ⟨#[]⟩) (.slice none 0 0) (.string ⟨#[]⟩) (.string ⟨#[]⟩)
      unfold six at hb6 hf6
      have HF6 := Lib.hid (HF7.out.trans hf6 (fun k hk => .inr (by omega)))
      have HR6 := Lib.hid (HR7.out.fr hf6 (fun k hk => by omega))
      clear hf6
      have r0 := blk_cell hb6 0
      have r1 := blk_cell hb6 1
      have r2 := blk_cell hb6 2
      have r3 := blk_cell hb6 3
      have r4 := blk_cell hb6 4
      have r5 := blk_cell hb6 5
      clear hb6 p0 p1 p2 p3 p4 p5 y0 y1 y2 y3 y4 y5
      generalize ((((((w7.setCell ⟨w.heap.size, 0, none⟩ (.int .i64 0)).setCell ⟨w.heap.size, 1, none⟩ (.string ⟨#[]⟩)).setCell ⟨w.heap.size, 2, none⟩ (.string ⟨#[]⟩)).setCell ⟨w.heap.size, 3, none⟩ (.slice none 0 0)).setCell ⟨w.heap.size, 4, none⟩ (.string ⟨#[]⟩)).setCell ⟨w.heap.size, 5, none⟩ (.string ⟨#[]⟩)) = w6 at *
      rw [HR.out]
      refine bodyPost_ret (v := .tuple #[.agg #[.int .i64 0, .string ⟨#[]⟩, .string ⟨#[]⟩, .slice none 0 0, .string ⟨#[]⟩, .string ⟨#[]⟩], .int .i64 31]) ?_ rfl ?_
      · simp [results, Tryd.results8, go_sem, r0, r1, r2, r3, r4, r5]
      · exact ⟨none, 0, rfl, Nat.le_refl _, Kd.C_nil Kd.string w6, (fun _ h => nomatch h), HR6.out, HF6.out⟩
    · have HR : Hid (rdDef B e = ((⟨n, ByteArray.empty, ByteArray.empty, [], ByteArray.empty, ByteArray.empty⟩ : DefV), 0, B1, 0)) := Lib.hid (by rw [rdDef, HP.out, if_neg (by simp)]; simp only; rw [hrt, if_pos rfl])
      rw [hrt] at hright
      clear hrt
      have q0 := blk_cell HQ5.out 0
      have q1 := blk_cell HQ5.out 1
      have q2 := blk_cell HQ5.out 2
      have q3 := blk_cell HQ5.out 3
      have q4 := blk_cell HQ5.out 4
      have q5 := blk_cell HQ5.out 5
      refine herr.out.mono ?_
      rintro _ _ ⟨rfl, rfl⟩
      go_wp2_with fail
      refine hright.out.mono ?_
      rintro _ w7 ⟨rfl, hb7⟩
      have HPX := Lib.hid ((Fr.of_below (fun _ => False) hb7).heap HP5.out (fun h => h))
      have hqx := (Fr.of_below (fun _ => False) hb7).heap HQ5.out (fun h => h)
      have HF7 := Lib.hid (HF5.out.then_below hb7)
      have HR7 := Lib.hid (HR5.out.fr (Fr.of_below (fun _ => False) hb7) (fun k hk => hk.elim))
      have hs7 := hb7.size
      clear q0 q1 q2 q3 q4 q5
      have q0 := blk_cell hqx 0
      have q1 := blk_cell hqx 1
      have q2 := blk_cell hqx 2
      have q3 := blk_cell hqx 3
      have q4 := blk_cell hqx 4
      have q5 := blk_cell hqx 5
      clear hqx hb7
      have p0 := blk_cell HPX.out 0
      have p1 := blk_cell HPX.out 1
      have p2 := blk_cell HPX.out 2
      have p3 := blk_cell HPX.out 3
      have p4 := blk_cell HPX.out 4
      have p5 := blk_cell HPX.out 5
      have y0 := blk_frozen HPX.out 0
      have y1 := blk_frozen HPX.out 1
      have y2 := blk_frozen HPX.out 2
      have y3 := blk_frozen HPX.out 3
      have y4 := blk_frozen HPX.out 4
      have y5 := blk_frozen HPX.out 5
      go_wp2_with fail
      have hb6 := six_blk HPX.out (.int .i64 n) (.string ⟨#[]⟩) (.string ⟨#[]⟩) (.slice none 0 0) (.string ⟨#[]⟩) (.string ⟨#[]⟩)
      have hf6 := six_fr w7 w.heap.size (.int .i64 n) (.string ⟨#[]⟩) (.string ⟨#[]⟩) (.slice none 0 0) (.string ⟨#[]⟩) (.string ⟨#[]⟩)
      unfold six at hb6 hf6
      have HF6 := Lib.hid (HF7.out.trans hf6 (fun k hk => .inr (by omega)))
      have HR6 := Lib.hid (HR7.out.fr hf6 (fun k hk => by omega))
      clear hf6
      have r0 := blk_cell hb6 0
      have r1 := blk_cell hb6 1
      have r2 := blk_cell hb6 2
      have r3 := blk_cell hb6 3
      have r4 := blk_cell hb6 4
      have r5 := blk_cell hb6 5
      clear hb6 p0 p1 p2 p3 p4 p5 y0 y1 y2 y3 y4 y5
      generalize ((((((w7.setCell ⟨w.heap.size, 0, none⟩ (.int .i64 n)).setCell ⟨w.heap.size, 1, none⟩ (.string ⟨#[]⟩)).setCell ⟨w.heap.size, 2, none⟩ (.string ⟨#[]⟩)).setCell ⟨w.heap.size, 3, none⟩ (.slice none 0 0)).setCell ⟨w.heap.size, 4, none⟩ (.string ⟨#[]⟩)).setCell ⟨w.heap.size, 5, none⟩ (.string ⟨#[]⟩)) = w6 at *
      rw [HR.out]
      refine bodyPost_ret (v := .tuple #[.agg #[.int .i64 n, .string ⟨#[]⟩, .string ⟨#[]⟩, .slice none 0 0, .string ⟨#[]⟩, .string ⟨#[]⟩], .int .i64 0]) ?_ rfl ?_
      · simp [results, Tryd.results8, go_sem, r0, r1, r2, r3, r4, r5]
      · exact ⟨none, 0, rfl, Nat.le_refl _, Kd.C_nil Kd.string w6, (fun _ h => nomatch h), HR6.out, HF6.out⟩
  · have he1' : (e1 == 0) = false := beq_eq_false_iff_ne.2 he4
    have he2' : (e1 != 0) = true := bne_iff_ne.2 he4
    have HR : Hid (rdDef B e = (zeroD, e1, B1, e1)) := Lib.hid (by rw [rdDef, HP.out, if_pos he4])
    have HPX := HP5
    clear he4
    have p0 := blk_cell HPX.out 0
    have p1 := blk_cell HPX.out 1
    have p2 := blk_cell HPX.out 2
    have p3 := blk_cell HPX.out 3
    have p4 := blk_cell HPX.out 4
    have p5 := blk_cell HPX.out 5
    have y0 := blk_frozen HPX.out 0
    have y1 := blk_frozen HPX.out 1
    have y2 := blk_frozen HPX.out 2
    have y3 := blk_frozen HPX.out 3
    have y4 := blk_frozen HPX.out 4
    have y5 := blk_frozen HPX.out 5
    refine herr.out.mono ?_
    rintro _ _ ⟨rfl, rfl⟩
    go_wp2_with (go_at_call 12; refine herr.out.mono ?_; rintro _ _ ⟨rfl, rfl⟩)
    have hb6 := six_blk HPX.out (.int .i64 0) (.string ⟨#[]⟩) (.string ⟨#[]⟩) (.slice none 0 0) (.string ⟨#[]⟩) (.string ⟨#[]⟩)
    have hf6 := six_fr w5 w.heap.size (.int .i64 0) (.string ⟨#[]⟩) (.string ⟨#[]⟩) (.slice none 0 0) (.string ⟨#[]⟩) (.string ⟨#[]⟩)
    unfold six at hb6 hf6
    have HF6 := Lib.hid (HF5.out.trans hf6 (fun k hk => .inr (by omega)))
    have HR6 := Lib.hid (HR5.out.fr hf6 (fun k hk => by omega))
    clear hf6
    have r0 := blk_cell hb6 0
    have r1 := blk_cell hb6 1
    have r2 := blk_cell hb6 2
    have r3 := blk_cell hb6 3
    have r4 := blk_cell hb6 4
    have r5 := blk_cell hb6 5
    clear hb6 p0 p1 p2 p3 p4 p5 y0 y1 y2 y3 y4 y5
    generalize ((((((w5.setCell ⟨w.heap.size, 0, none⟩ (.int .i64 0)).setCell ⟨w.heap.size, 1, none⟩ (.string ⟨#[]⟩)).setCell ⟨w.heap.size, 2, none⟩ (.string ⟨#[]⟩)).setCell ⟨w.heap.size, 3, none⟩ (.slice none 0 0)).setCell ⟨w.heap.size, 4, none⟩ (.string ⟨#[]⟩)).setCell ⟨w.heap.size, 5, none⟩ (.string ⟨#[]⟩)) = w6 at *
    rw [HR.out]
    refine bodyPost_ret (v := .tuple #[.agg #[.int .i64 0, .string ⟨#[]⟩, .string ⟨#[]⟩, .slice none 0 0, .string ⟨#[]⟩, .string ⟨#[]⟩], .int .i64 e1]) ?_ rfl ?_
    · simp [results, Tryd.results8, go_sem, r0, r1, r2, r3, r4, r5]
    · exact ⟨none, 0, rfl, Nat.le_refl _, Kd.C_nil Kd.string w6, (fun _ h => nomatch h), HR6.out, HF6.out⟩
end Go.Proofs.YtoiaancehakiiaaDoor.Q
