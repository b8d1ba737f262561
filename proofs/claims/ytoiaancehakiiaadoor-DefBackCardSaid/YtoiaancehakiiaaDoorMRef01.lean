/- The walks of the reference's reader (monticuleref01.Reader: value, Num, Text), by hand. -/
import Derived.Test.YtoiaancehakiiaaDoorMReader
import Derived.RegionTactic
import Derived.StillTailTactics
import Derived.ChangeAlike
namespace Go.Proofs.YtoiaancehakiiaaDoor.Q
open Go.RowKit Go.Proofs.YtoiaancehakiiaaDoor.Plain Go.Proofs.YtoiaancehakiiaaDoorW.PrintWords

/-- the reference's reader at block g -/
def Mr (w : World) (g : Nat) (B : ByteArray) (e : Int) : Prop := w.heap[g]? = some (.cells #[.string B, .int .i64 e] 28 (0, 0))
theorem Mr.fr {S : Nat → Prop} {w w' : World} {g : Nat} {B : ByteArray} {e : Int} (h : Mr w g B e) (hf : Fr S w w') (hs : ¬ S g) : Mr w' g B e := hf.heap h hs
theorem Mr.setE {w : World} {g : Nat} {B : ByteArray} {e : Int} (h : Mr w g B e) (x : Int) : Mr (w.setCell ⟨g, 1, none⟩ (.int .i64 x)) g B x := by
  unfold Mr at h ⊢
  simpa using blk_set h 1 (.int .i64 x)
theorem Mr.setB {w : World} {g : Nat} {B : ByteArray} {e : Int} (h : Mr w g B e) (X : ByteArray) : Mr (w.setCell ⟨g, 0, none⟩ (.string X)) g X e := by
  unfold Mr at h ⊢
  simpa using blk_set h 0 (.string X)
theorem Mr.facts {w : World} {g : Nat} {B : ByteArray} {e : Int} (h : Mr w g B e) : w.cell? ⟨g, 0, none⟩ = some (.string B) ∧ w.cell? ⟨g, 1, none⟩ = some (.int .i64 e) ∧ w.frozen? ⟨g, 0, none⟩ = false ∧ w.frozen? ⟨g, 1, none⟩ = false ∧ g < w.heap.size :=
  ⟨(blk_cell h 0).trans rfl, (blk_cell h 1).trans rfl, blk_frozen h 0, blk_frozen h 1, blk_lt h⟩
def MrPost (w : World) (g : Nat) (v : Value) (B : ByteArray) (x : Int) (e : Ending) (w' : World) : Prop := e = .returned v ∧ Mr w' g B x ∧ Fr (fun k => k = g) w w'

theorem value_calls (B : ByteArray) (w : World) (h : B.size ≤ 4) :
    Calls Tryd.prog 62 #[.string B] w fun e w' => e = .returned (.int .u64 (valL B.data.toList)) ∧ w = w' := by
  go_enter Tryd.func62, Tryd.ntmps62
  go_wp2
  go_loop [3, 4] (fun n i => ∃ k : Nat, k ≤ B.size ∧ i = .int .i64 k ∧ n = .int .u64 (valL (B.data.toList.take k))) (fun _ i => 4 - (intOf i).toNat)
  case atStart => exact ⟨0, Nat.zero_le _, rfl, rfl⟩
  case round =>
    obtain ⟨k, hk, rfl, rfl⟩ := hrel
    by_cases hlt : k < B.size
    · have hlk : k < B.data.toList.length := by rw [list_len]; omega
      have hv : valL (B.data.toList.take (k + 1)) = valL (B.data.toList.take k) * 256 + (B[k]'hlt).toNat := by
        rw [List.take_succ_eq_append_getElem hlk, valL_snoc]
        rfl
      have hb := valL_lt (B.data.toList.take k)
      rw [List.length_take, Nat.min_eq_left (by omega)] at hb
      have hb2 : 256 ^ k ≤ 256 ^ 3 := Nat.pow_le_pow_right (by decide) (by omega)
      have hc8 := (B[k]'hlt).toNat_lt
      have hn : valL (B.data.toList.take k) < 16777216 := by omega
      have HV := Lib.hid hv
      clear hv hb hb2
      generalize valL (B.data.toList.take k) = n at *
      go_wp2
      go_round
      case rel => exact ⟨k + 1, by omega, by go_num, by rw [HV.out]; go_num⟩
      case measure => simp [intOf]; omega
    · go_wp2
      go_ret
      exact ⟨by rw [List.take_of_length_le (by rw [list_len]; omega)]; rfl, rfl⟩

theorem mnum_calls (g : Nat) (B : ByteArray) (e : Int) (w : World) (h : Mr w g B e) (hs : B.size ≤ 9223372036854775807) :
    Calls Tryd.prog 34 #[.pointer (some ⟨g, 0, none⟩)] w (MrPost w g (.int .i64 (rdNum B e).1) (rdNum B e).2.1 (rdNum B e).2.2) := by
  have H := Lib.hid h
  obtain ⟨h0, h1, z0, z1, hg⟩ := h.facts
  by_cases he : e = 0
  · subst he
    by_cases h4 : B.size < 4
    · have hn : rdNum B 0 = (0, B, 10) := by rw [rdNum, if_neg (by simp), if_pos h4]
      rw [hn]
      have h4i : (B.size : Int) < 4 := by omega
      clear hn h4 h
      go_enter Tryd.func34, Tryd.ntmps34
      go_wp2
      go_ret
      exact ⟨rfl, H.out.setE 10, Fr.set_ _ _ _ rfl⟩
    · have h4i : ¬ (B.size : Int) < 4 := by omega
      have hval := Lib.hid (value_calls (B.extract 0 4) w (by rw [ByteArray.size_extract]; omega))
      by_cases hbig : valL (B.data.toList.take 4) > 2147483647
      · have hn : rdNum B 0 = (0, B, 11) := by rw [rdNum, if_neg (by simp), if_neg h4, if_pos hbig]
        rw [hn]
        have HV : Hid (valL (B.extract 0 4).data.toList = valL (B.data.toList.take 4)) := Lib.hid (by rw [Lib.extract_from_zero])
        generalize valL (B.data.toList.take 4) = n at *
        have hbb : decide (2147483647 < (n : Int)) = true := decide_eq_true (by omega)
        clear hn h4 h
        go_enter Tryd.func34, Tryd.ntmps34
        go_wp2_with (go_at_call 62; refine hval.out.mono ?_; rw [HV.out]; rintro e2 w2 ⟨rfl, rfl⟩)
        go_ret
        exact ⟨rfl, H.out.setE 11, Fr.set_ _ _ _ rfl⟩
      · have hn : rdNum B 0 = (((valL (B.data.toList.take 4) : Nat) : Int), cutB B 4, 0) := by rw [rdNum, if_neg (by simp), if_neg h4, if_neg hbig]
        rw [hn]
        have HV : Hid (valL (B.extract 0 4).data.toList = valL (B.data.toList.take 4)) := Lib.hid (by rw [Lib.extract_from_zero])
        have hN := Lib.hid (h.setB (cutB B 4))
        generalize valL (B.data.toList.take 4) = n at *
        have hbb : decide (2147483647 < (n : Int)) = false := decide_eq_false (by omega)
        clear hn h4 h
        go_enter Tryd.func34, Tryd.ntmps34
        go_wp2_with (go_at_call 62; refine hval.out.mono ?_; rw [HV.out]; rintro e2 w2 ⟨rfl, rfl⟩)
        go_ret
        exact ⟨rfl, hN.out, Fr.set_ _ _ _ rfl⟩
  · have hn : rdNum B e = (0, B, e) := by rw [rdNum, if_pos he]
    rw [hn]
    have he1 : (e == 0) = false := beq_eq_false_iff_ne.2 he
    have he2 : (e != 0) = true := bne_iff_ne.2 he
    clear hn he h
    go_enter Tryd.func34, Tryd.ntmps34
    go_wp2
    go_ret
    exact ⟨rfl, H.out, Fr.refl _ _⟩

theorem rdNum_zero {B : ByteArray} {e : Int} (h : (rdNum B e).2.2 = 0) : e = 0 := by
  by_cases he : e = 0
  · exact he
  · rw [rdNum, if_pos he] at h
    exact h

theorem mtext_calls (g : Nat) (B : ByteArray) (e : Int) (w : World) (h : Mr w g B e) (hs : B.size ≤ 9223372036854775807) :
    Calls Tryd.prog 35 #[.pointer (some ⟨g, 0, none⟩)] w (MrPost w g (.string (rdText B e).1) (rdText B e).2.1 (rdText B e).2.2) := by
  have H := Lib.hid h
  obtain ⟨h0, h1, z0, z1, hg⟩ := h.facts
  have hnn := rdNum_nonneg B e
  obtain ⟨m, hm⟩ := Int.eq_ofNat_of_zero_le hnn.1
  by_cases he : (rdNum B e).2.2 = 0
  · by_cases hbig : ((rdNum B e).2.1.size : Int) < (rdNum B e).1
    · have ht : rdText B e = (ByteArray.empty, B, 10) := by rw [rdText, if_neg (by simp [he]), if_pos hbig]
      rw [ht]
      rw [hm] at hbig
      have HN : Hid (rdNum B e = ((m : Int), (rdNum B e).2.1, 0)) := Lib.hid (by rw [← hm, ← he])
      generalize (rdNum B e).2.1 = B1 at HN hbig hnn
      have hbig : B1.size < m := by omega
      have hbb : decide (B1.size < m) = true := decide_eq_true hbig
      clear ht hm he hnn hbig h
      go_enter Tryd.func35, Tryd.ntmps35
      go_wp2
      go_region
      have hq0 : Mr (w.alloc (.cells #[.string B, .int .i64 e] 28)).drew w.heap.size B e := heap_alloc_new w _
      have hFW := Lib.hid (((Fr.refl (fun k => k = g) w).alloc (.cells #[.string B, .int .i64 e] 28)).drew)
      have hMW := Lib.hid (show Mr (w.alloc (.cells #[.string B, .int .i64 e] 28)).drew g B e from blk_alloc H.out _)
      clear h0 h1 z0 z1
      go_wp2_with (go_at_call 34; refine (mnum_calls w.heap.size B e _ hq0 hs).mono ?_; rw [HN.out]; rintro e2 w1 ⟨rfl, hq1, hF1⟩; have HF := Lib.hid (hFW.out.trans hF1 (fun k hk => .inr (by omega))); have HM := Lib.hid (hMW.out.fr hF1 (by omega)); have HQ := Lib.hid hq1; obtain ⟨q0, q1, y0, y1, hqs⟩ := hq1.facts; obtain ⟨m0, m1, x0, x1, hgs⟩ := HM.out.facts; clear hq1 hF1)
      go_ret
      exact ⟨rfl, (HM.out.fr (Fr.set_ (S := fun k => k = w.heap.size) w1 ⟨w.heap.size, 1, none⟩ (.int .i64 10) rfl) (by omega)).setE 10, (HF.out.trans (Fr.set_ (S := fun k => k = w.heap.size) w1 ⟨w.heap.size, 1, none⟩ (.int .i64 10) rfl) (fun k hk => .inr (by omega))).setCell _ _ rfl⟩
    · have ht : rdText B e = ((rdNum B e).2.1.extract 0 m, cutB (rdNum B e).2.1 m, 0) := by rw [rdText, if_neg (by simp [he]), if_neg hbig, hm, Int.toNat_natCast]
      rw [ht]
      rw [hm] at hbig
      have HN : Hid (rdNum B e = ((m : Int), (rdNum B e).2.1, 0)) := Lib.hid (by rw [← hm, ← he])
      generalize (rdNum B e).2.1 = B1 at HN hbig hnn
      have hbig : m ≤ B1.size := by omega
      have hbb : decide (B1.size < m) = false := decide_eq_false (by omega)
      obtain rfl := rdNum_zero he
      clear ht hm he hnn h
      go_enter Tryd.func35, Tryd.ntmps35
      go_wp2
      go_region
      have hq0 : Mr (w.alloc (.cells #[.string B, .int .i64 0] 28)).drew w.heap.size B 0 := heap_alloc_new w _
      have hFW := Lib.hid (((Fr.refl (fun k => k = g) w).alloc (.cells #[.string B, .int .i64 0] 28)).drew)
      have hMW := Lib.hid (show Mr (w.alloc (.cells #[.string B, .int .i64 0] 28)).drew g B 0 from blk_alloc H.out _)
      clear h0 h1 z0 z1
      go_wp2_with (go_at_call 34; refine (mnum_calls w.heap.size B 0 _ hq0 hs).mono ?_; rw [HN.out]; rintro e2 w1 ⟨rfl, hq1, hF1⟩; have HF := Lib.hid (hFW.out.trans hF1 (fun k hk => .inr (by omega))); have HM := Lib.hid (hMW.out.fr hF1 (by omega)); have HQ := Lib.hid hq1; obtain ⟨q0, q1, y0, y1, hqs⟩ := hq1.facts; obtain ⟨m0, m1, x0, x1, hgs⟩ := HM.out.facts; clear hq1 hF1)
      go_ret
      exact ⟨rfl, HM.out.setB _, HF.out.setCell _ _ rfl⟩
  · have ht : rdText B e = (ByteArray.empty, B, (rdNum B e).2.2) := by rw [rdText, if_pos he]
    rw [ht]
    have HN : Hid (rdNum B e = ((rdNum B e).1, B, (rdNum B e).2.2)) := Lib.hid (Prod.ext rfl (Prod.ext (rdNum_err he) rfl))
    generalize (rdNum B e).2.2 = x at he HN hnn
    generalize (rdNum B e).1 = n at HN hnn hm
    have he1 : (x == 0) = false := beq_eq_false_iff_ne.2 he
    have he2 : (x != 0) = true := bne_iff_ne.2 he
    clear ht hnn hm he h
    go_enter Tryd.func35, Tryd.ntmps35
    go_wp2
    go_region
    have hq0 : Mr (w.alloc (.cells #[.string B, .int .i64 e] 28)).drew w.heap.size B e := heap_alloc_new w _
    have hFW := Lib.hid (((Fr.refl (fun k => k = g) w).alloc (.cells #[.string B, .int .i64 e] 28)).drew)
    have hMW := Lib.hid (show Mr (w.alloc (.cells #[.string B, .int .i64 e] 28)).drew g B e from blk_alloc H.out _)
    clear h0 h1 z0 z1
    go_wp2_with (go_at_call 34; refine (mnum_calls w.heap.size B e _ hq0 hs).mono ?_; rw [HN.out]; rintro e2 w1 ⟨rfl, hq1, hF1⟩; have HF := Lib.hid (hFW.out.trans hF1 (fun k hk => .inr (by omega))); have HM := Lib.hid (hMW.out.fr hF1 (by omega)); have HQ := Lib.hid hq1; obtain ⟨q0, q1, y0, y1, hqs⟩ := hq1.facts; obtain ⟨m0, m1, x0, x1, hgs⟩ := HM.out.facts; clear hq1 hF1)
    go_ret
    exact ⟨rfl, HM.out.setE x, HF.out.setCell _ _ rfl⟩
end Go.Proofs.YtoiaancehakiiaaDoor.Q
