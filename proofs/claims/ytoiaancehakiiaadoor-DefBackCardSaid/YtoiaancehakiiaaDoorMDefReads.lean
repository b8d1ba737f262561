/- The walk of the law DefReads. -/
import Derived.Test.YtoiaancehakiiaaDoorMRRead
import Derived.Test.YtoiaancehakiiaaDoorQ5
import Derived.Deep.RegionWith
import Derived.Deep.QuietTactic
import Derived.BigQuiet
import Derived.Deep.RegionHeld3
namespace Go.Proofs.YtoiaancehakiiaaDoor.Q
open Go.RowKit Go.Proofs.YtoiaancehakiiaaDoor.Plain Go.Proofs.YtoiaancehakiiaaDoorW.PrintWords

theorem awake_ok : monticulelaw07_awake.f 100 = some true := by
  unfold monticulelaw07_awake.f
  rw [show def_Key.f 100 2 (⟨#[83, 116, 97, 99, 107]⟩ : ByteArray) (⟨#[]⟩ : ByteArray) ([] : List ByteArray) (⟨#[115, 105, 122, 101]⟩ : ByteArray) (⟨#[115, 105, 122, 101]⟩ : ByteArray) = some (keyD ⟨2, ⟨#[83, 116, 97, 99, 107]⟩, ⟨#[]⟩, [], ⟨#[115, 105, 122, 101]⟩, ⟨#[115, 105, 122, 101]⟩⟩) from key_ok 100 ⟨2, ⟨#[83, 116, 97, 99, 107]⟩, ⟨#[]⟩, [], ⟨#[115, 105, 122, 101]⟩, ⟨#[115, 105, 122, 101]⟩⟩ (by decide) (by decide) (by decide)]
  decide +kernel
theorem awake_calls (w : World) : Calls Tryd.prog 6 #[] w fun e w' => e = .returned (.bool true) ∧ Below w.heap.size w w' :=
  monticulelaw07_awake.calls 100 true w awake_ok

theorem requal_at (l : List ByteArray) (hl : l.length ≤ 9223372036854775807) (d : Nat) : ∀ (k i : Nat), l.length - i = d → i ≤ l.length → d < k → monticuleref01_Same.l0 k l l (i : Int) = some true := by
  induction d with
  | zero =>
    intro k i hd hi hk
    obtain ⟨k, rfl⟩ : ∃ m, k = m + 1 := ⟨k - 1, by omega⟩
    simp only [monticuleref01_Same.l0]
    rw [if_neg (by omega)]
  | succ d ih =>
    intro k i hd hi hk
    obtain ⟨k, rfl⟩ : ∃ m, k = m + 1 := ⟨k - 1, by omega⟩
    simp only [monticuleref01_Same.l0]
    rw [if_pos (by omega), if_pos (by omega), if_pos (by omega)]
    simp only [if_true]
    rw [w64 i (by omega)]
    exact ih k (i + 1) (by omega) (by omega) (by omega)
theorem rsame_refl (k : Nat) (d : DefV) (hl : d.vars.length ≤ 9223372036854775807) (hk : d.vars.length < k) : monticuleref07_Same.f k d.kind d.cls d.sup d.vars d.sel d.src d.kind d.cls d.sup d.vars d.sel d.src = some true := by
  unfold monticuleref07_Same.f monticuleref01_Same.f
  have := requal_at d.vars hl d.vars.length k 0 (by omega) (by omega) hk
  simp only [if_true]
  have t2 : monticuleref01_Same.l0 k d.vars d.vars 0 = some true := this
  rw [t2]; rfl

theorem below_then {w w1 w2 : World} (h : Below w.heap.size w w1) (h2 : Below w1.heap.size w1 w2) : Below w.heap.size w w2 :=
  ((Fr.of_below (fun _ => False) h).then_below h2).below (fun _ h => h.elim)

theorem octets_all {w : World} {A : Option Addr} {B : ByteArray} (c : Nat) (hC : (Kd.int .u8).C w A B.size (bytesOf B)) :
    (convert 22 9 (.slice A B.size c)).run Tryd.prog w = .ok (.string B) w := by
  have h := octets_head (c := c) hC (Nat.le_refl _)
  rw [ByteArray.extract_zero_size] at h
  exact h

theorem rdLoop_ssize (k : Nat) : ∀ (B : ByteArray) (acc : List ByteArray), (rdLoop k B acc).2.1.size ≤ B.size := by
  induction k with
  | zero => intro B acc; exact Nat.le_refl _
  | succ k ih =>
    intro B acc
    have h := rdText_ssize B 0
    unfold rdLoop
    split
    · exact h
    · exact Nat.le_trans (ih _ _) h
theorem rdTexts_ssize (B : ByteArray) (e : Int) : (rdTexts B e).2.1.size ≤ B.size := by
  unfold rdTexts
  split
  · exact Nat.le_refl _
  split
  · exact Nat.le_refl _
  split
  · exact Nat.le_refl _
  · exact Nat.le_trans (rdLoop_ssize _ _ _) (rdNum_nonneg B e).2.2
theorem rdParts_ssize (B : ByteArray) (e : Int) : (rdParts B e).2.1.size ≤ B.size := by
  have h1 := (rdNum_nonneg B e).2.2
  unfold rdParts
  split
  · exact Nat.le_trans (rdTexts_ssize _ _) (Nat.le_trans (rdText_ssize _ _) (Nat.le_trans (rdText_ssize _ _) h1))
  split
  · exact Nat.le_trans (rdText_ssize _ _) (Nat.le_trans (rdText_ssize _ _) (Nat.le_trans (rdText_ssize _ _) h1))
  · exact h1
theorem rdDef_ssize (B : ByteArray) (e : Int) : (rdDef B e).2.2.1.size ≤ B.size := by
  have h := rdParts_ssize B e
  unfold rdDef
  split
  · exact h
  split
  · exact h
  · exact h

/-- the state of the two readers, between rounds -/
def DrRel (w : World) (g m : Nat) (v4 : Value) (wr : World) : Prop :=
  ∃ (i : Nat) (B : ByteArray) (e : Int), i ≤ 6 ∧ v4 = .int .i64 i ∧ B.size ≤ 600 ∧ Rd wr g B e ∧ Mr wr m B e ∧ w.heap.size ≤ g ∧ g < m ∧ Below w.heap.size w wr

theorem dr_s {W : World} {p1 p2 m : Nat} {D : DefV} {A1 A2 : Option Addr} {c1 c2 : Nat} {B2 : ByteArray} {e2 : Int} (h1 : W.heap[p1]? = some (.cells #[.int .i64 D.kind, .string D.cls, .string D.sup, .slice A1 D.vars.length c1, .string D.sel, .string D.src] 31 (0, 0))) (h2 : W.heap[p2]? = some (.cells #[.int .i64 D.kind, .string D.cls, .string D.sup, .slice A2 D.vars.length c2, .string D.sel, .string D.src] 31 (0, 0))) (h3 : Mr W m B2 e2) :
    W.cell? ⟨p1, 0, none⟩ = some (.int .i64 D.kind) ∧ W.cell? ⟨p1, 1, none⟩ = some (.string D.cls) ∧ W.cell? ⟨p1, 2, none⟩ = some (.string D.sup) ∧ W.cell? ⟨p1, 3, none⟩ = some (.slice A1 D.vars.length c1) ∧ W.cell? ⟨p1, 4, none⟩ = some (.string D.sel) ∧ W.cell? ⟨p1, 5, none⟩ = some (.string D.src) ∧ W.cell? ⟨p2, 0, none⟩ = some (.int .i64 D.kind) ∧ W.cell? ⟨p2, 1, none⟩ = some (.string D.cls) ∧ W.cell? ⟨p2, 2, none⟩ = some (.string D.sup) ∧ W.cell? ⟨p2, 3, none⟩ = some (.slice A2 D.vars.length c2) ∧ W.cell? ⟨p2, 4, none⟩ = some (.string D.sel) ∧ W.cell? ⟨p2, 5, none⟩ = some (.string D.src) ∧ W.cell? ⟨m, 0, none⟩ = some (.string B2) ∧ W.cell? ⟨m, 1, none⟩ = some (.int .i64 e2) :=
  ⟨blk_cell h1 0, blk_cell h1 1, blk_cell h1 2, blk_cell h1 3, blk_cell h1 4, blk_cell h1 5, blk_cell h2 0, blk_cell h2 1, blk_cell h2 2, blk_cell h2 3, blk_cell h2 4, blk_cell h2 5, h3.facts.1, h3.facts.2.1⟩

set_option maxRecDepth 100000 in
set_option maxHeartbeats 4000000 in
theorem defReads_calls (A : Option Addr) (c : Nat) (B : ByteArray) (w : World) (hC : (Kd.int .u8).C w A B.size (bytesOf B)) (hbig : B.size ≤ 600) :
    Calls Tryd.prog 3 #[.slice A B.size c] w fun x w' => x = .returned (.bool true) ∧ Below w.heap.size w w' := by
  have HB := Lib.hid hbig
  have hbb : ¬ (600 : Int) < (B.size : Int) := by omega
  have HCC := Lib.hid hC
  clear hbig hC
  go_enter Tryd.func3, Tryd.ntmps3
  go_wp2_with (first | (go_at_call 6; refine (awake_calls w).mono ?_; rintro e0 w0 ⟨rfl, hb0⟩; have HC0 := Lib.hid ((Fr.of_below (fun _ => False) hb0).int HCC.out (fun _ _ _ h => h)); have HB0 := Lib.hid hb0; clear hb0) | (go_at_call 7; refine (open_calls A c B _ HC0.out (Nat.le_trans HB.out (by decide))).mono ?_; rintro e1 w1 ⟨g, rfl, hR1, hg1, hb1⟩; have HR1 := Lib.hid hR1; have HG1 := Lib.hid hg1; have HB1 := Lib.hid (below_then HB0.out hb1); have hconv := octets_all c ((Fr.of_below (fun _ => False) hb1).int HC0.out (fun _ _ _ h => h)); clear hR1 hg1 hb1))
  have HM1 : Hid (Mr (w1.alloc (.cells #[.string B, .int .i64 0] 28)) w1.heap.size B 0) := Lib.hid (heap_alloc_new w1 _)
  have HRA := Lib.hid (HR1.out.fr ((Fr.refl (fun _ => False) w1).alloc (.cells #[.string B, .int .i64 0] 28)) (fun _ h => h.elim))
  have HLT := Lib.hid HR1.out.lt
  have HBA := Lib.hid (below_then HB1.out (below_alloc (Below.refl _ w1) (.cells #[.string B, .int .i64 0] 28)))
  have HG2 := Lib.hid (Nat.le_trans HB0.out.size HG1.out)
  clear hconv
  go_loopw [5] (fun v5 wr => DrRel w g w1.heap.size v5 wr) (fun v5 _ => 6 - (intOf v5).toNat)
  case atStart => exact ⟨0, B, 0, by decide, rfl, HB.out, HRA.out, HM1.out, HG2.out, HLT.out, HBA.out⟩
  case round =>
    obtain ⟨i, Bi, e, hi, rfl, hBi, hRi, hMi, hg, hgm, hbi⟩ := hrel
    have HRi := Lib.hid hRi
    have HMi := Lib.hid hMi
    have Hbi := Lib.hid hbi
    clear hRi hMi hbi
    by_cases hkm : i < 6
    · obtain ⟨D, code, B2, e2, hD⟩ : ∃ D code B2 e2, rdDef Bi e = (D, code, B2, e2) := ⟨_, _, _, _, rfl⟩
      have hsz2 := rdDef_ssize Bi e
      have hrd : Hid (∀ W, Rd W g Bi e → Calls Tryd.prog 8 #[.pointer (some ⟨g, 0, none⟩)] W (ReadPost W g D code B2 e2)) := Lib.hid (fun W hW => by have := read_calls g Bi e W hW (by omega); rw [hD] at this; exact this)
      have hrr : Hid (∀ W, Mr W w1.heap.size Bi e → Calls Tryd.prog 9 #[.pointer (some ⟨w1.heap.size, 0, none⟩)] W (RReadPost W w1.heap.size D code B2 e2)) := Lib.hid (fun W hW => by have := rread_calls w1.heap.size Bi e W hW (by omega); rw [hD] at this; exact this)
      rw [hD] at hsz2
      simp only at hsz2
      clear hD
      go_wp2_with (first | (go_at_call 8; refine (hrd.out _ HRi.out).mono ?_; rintro e1' wx ⟨A1, c1, he1, hc1, hC1, hA1, hR1, hF1⟩; obtain rfl : e1' = .returned (.tuple #[.agg #[.int .i64 D.kind, .string D.cls, .string D.sup, .slice A1 D.vars.length c1, .string D.sel, .string D.src], .int .i64 code]) := he1; have HC1 := Lib.hid hC1; have HA1 := Lib.hid hA1; have HRx := Lib.hid hR1; have HFx := Lib.hid hF1; have HMx := Lib.hid (HMi.out.fr hF1 (by omega)); clear hC1 hR1 hF1 hA1))
      have HQy := Lib.hid (heap_alloc_new wx (.cells #[.int .i64 D.kind, .string D.cls, .string D.sup, .slice A1 D.vars.length c1, .string D.sel, .string D.src] 31))
      have HRy := Lib.hid (HRx.out.fr ((Fr.refl (fun _ => False) wx).alloc (.cells #[.int .i64 D.kind, .string D.cls, .string D.sup, .slice A1 D.vars.length c1, .string D.sel, .string D.src] 31)) (fun _ h => h.elim))
      have HMy := Lib.hid (HMx.out.fr ((Fr.refl (fun _ => False) wx).alloc (.cells #[.int .i64 D.kind, .string D.cls, .string D.sup, .slice A1 D.vars.length c1, .string D.sel, .string D.src] 31)) (fun h => h))
      have HFy := Lib.hid (HFx.out.alloc (.cells #[.int .i64 D.kind, .string D.cls, .string D.sup, .slice A1 D.vars.length c1, .string D.sel, .string D.src] 31))
      have HCy := Lib.hid (((Fr.refl (fun _ => False) wx).alloc (.cells #[.int .i64 D.kind, .string D.cls, .string D.sup, .slice A1 D.vars.length c1, .string D.sel, .string D.src] 31)).string HC1.out (fun _ _ _ h => h))
      have hlx := HRx.out.lt
      have hmx := blk_lt HMx.out
      generalize wx.alloc (.cells #[.int .i64 D.kind, .string D.cls, .string D.sup, .slice A1 D.vars.length c1, .string D.sel, .string D.src] 31) = wy at *
      refine (hrr.out _ HMy.out).mono ?_
      rintro e2' wz ⟨A2, c2, he2, hc2, hC2, hA2, hM2, hF2⟩
      obtain rfl : e2' = .returned (.tuple #[.agg #[.int .i64 D.kind, .string D.cls, .string D.sup, .slice A2 D.vars.length c2, .string D.sel, .string D.src], .int .i64 code]) := he2
      have hmi := blk_lt HMi.out
      have HQz := Lib.hid (hF2.heap HQy.out (by omega))
      have HRz := Lib.hid (HRy.out.fr hF2 (fun k hk => by omega))
      have HFz : Hid (Fr (fun k => k = g ∨ k = w1.heap.size) wr wz) := Lib.hid ((HFy.out.mono (fun k h => Or.inl h)).trans hF2 (fun k hk => .inl (.inr hk)))
      have HCz := Lib.hid (hF2.string HCy.out (fun ad ha hn hk => by have h1 := HA1.out ad ha; omega))
      have hly := blk_lt HQy.out
      have hsy := hF2.size
      have F0 : Fr (fun _ => False) wz (wz.alloc (.cells #[.int .i64 D.kind, .string D.cls, .string D.sup, .slice A2 D.vars.length c2, .string D.sel, .string D.src] 31)) := (Fr.refl (fun _ => False) wz).alloc (.cells #[.int .i64 D.kind, .string D.cls, .string D.sup, .slice A2 D.vars.length c2, .string D.sel, .string D.src] 31)
      have HQa := Lib.hid (F0.heap HQz.out (fun h => h))
      have HQb := Lib.hid (heap_alloc_new wz (.cells #[.int .i64 D.kind, .string D.cls, .string D.sup, .slice A2 D.vars.length c2, .string D.sel, .string D.src] 31))
      have HRa := Lib.hid (HRz.out.fr F0 (fun _ h => h.elim))
      have HMa := Lib.hid (Mr.fr hM2 F0 (fun h => h))
      have HFa := Lib.hid (HFz.out.alloc (.cells #[.int .i64 D.kind, .string D.cls, .string D.sup, .slice A2 D.vars.length c2, .string D.sel, .string D.src] 31))
      have HCa := Lib.hid (F0.string HCz.out (fun _ _ _ h => h))
      have HCb := Lib.hid (F0.string hC2 (fun _ _ _ h => h))
      have hsa := F0.size
      go_wp2_with fail
      generalize hwa : wz.alloc (.cells #[.int .i64 D.kind, .string D.cls, .string D.sup, .slice A2 D.vars.length c2, .string D.sel, .string D.src] 31) = wa at *
      clear hwa F0
      have hsame : Hid (∀ W, Kd.string.C W A1 D.vars.length D.vars → Kd.string.C W A2 D.vars.length D.vars → Calls Tryd.prog 10 #[.agg #[.int .i64 D.kind, .string D.cls, .string D.sup, .slice A1 D.vars.length c1, .string D.sel, .string D.src], .agg #[.int .i64 D.kind, .string D.cls, .string D.sup, .slice A2 D.vars.length c2, .string D.sel, .string D.src]] W fun e w' => e = .returned (.bool true) ∧ Below W.heap.size W w') :=
        Lib.hid (fun W h1 h2 => monticuleref07_Same.calls (D.vars.length + 1) D.kind D.cls D.sup A1 c1 D.vars D.sel D.src D.kind D.cls D.sup A2 c2 D.vars D.sel D.src true W h1 hc1 h2 hc2 (rsame_refl _ D h1.2.1 (Nat.lt_succ_self _)))
      have HS0 := Lib.hid (dr_s ((Fr.drew (Fr.refl (fun _ => False) wa)).heap HQa.out (fun h => h)) ((Fr.drew (Fr.refl (fun _ => False) wa)).heap HQb.out (fun h => h)) (HMa.out.fr (Fr.drew (Fr.refl (fun _ => False) wa)) (fun h => h)))
      go_region_held3 (fun W => W.cell? ⟨wx.heap.size, 0, none⟩ = some (.int .i64 D.kind) ∧ W.cell? ⟨wx.heap.size, 1, none⟩ = some (.string D.cls) ∧ W.cell? ⟨wx.heap.size, 2, none⟩ = some (.string D.sup) ∧ W.cell? ⟨wx.heap.size, 3, none⟩ = some (.slice A1 D.vars.length c1) ∧ W.cell? ⟨wx.heap.size, 4, none⟩ = some (.string D.sel) ∧ W.cell? ⟨wx.heap.size, 5, none⟩ = some (.string D.src) ∧ W.cell? ⟨wz.heap.size, 0, none⟩ = some (.int .i64 D.kind) ∧ W.cell? ⟨wz.heap.size, 1, none⟩ = some (.string D.cls) ∧ W.cell? ⟨wz.heap.size, 2, none⟩ = some (.string D.sup) ∧ W.cell? ⟨wz.heap.size, 3, none⟩ = some (.slice A2 D.vars.length c2) ∧ W.cell? ⟨wz.heap.size, 4, none⟩ = some (.string D.sel) ∧ W.cell? ⟨wz.heap.size, 5, none⟩ = some (.string D.src) ∧ W.cell? ⟨w1.heap.size, 0, none⟩ = some (.string B2) ∧ W.cell? ⟨w1.heap.size, 1, none⟩ = some (.int .i64 e2)) (first | exact HS5.out | exact HS0.out)
        (first
        | (go_at_call 10; refine (hsame.out _ ?_ ?_).mono ?_; exact (Fr.drew (Fr.refl (fun _ => False) wa)).string HCa.out (fun _ _ _ h => h); exact (Fr.drew (Fr.refl (fun _ => False) wa)).string HCb.out (fun _ _ _ h => h); rintro e5 w5 ⟨rfl, hb5⟩; have hf5 := (Fr.drew (Fr.refl (fun _ => False) wa)).then_below hb5; have HF5 := Lib.hid ((HFa.out.drew).then_below hb5); have HR5 := Lib.hid (HRa.out.fr hf5 (fun _ h => h.elim)); have HM5 := Lib.hid (HMa.out.fr hf5 (fun h => h)); have HS5 := Lib.hid (dr_s (hf5.heap HQa.out (fun h => h)) (hf5.heap HQb.out (fun h => h)) (HMa.out.fr hf5 (fun h => h))); clear hb5 hf5)
        | (go_at_call 11; refine (left_calls g B2 e2 _ HR5.out).mono ?_; rintro _ _ ⟨rfl, rfl⟩)
        | (go_at_call 12; refine (err_calls g B2 e2 _ HR5.out).mono ?_; rintro _ _ ⟨rfl, rfl⟩))
      clear HS0 HS5 hsame HQa HQb HQy HQz hrd hrr
      go_wp2
      refine ⟨⟨i + 1, B2, e2, by omega, rfl, by omega, HR5.out, HM5.out, hg, hgm, Hbi.out.trans (HF5.out.belowB (fun k hk => by rcases hk with rfl | rfl <;> omega) Hbi.out.size)⟩, ?_⟩
      show 6 - ((i : Int) + 1).toNat < 6 - (i : Int).toNat
      omega
    · go_wp2
      go_ret
      exact ⟨rfl, Hbi.out⟩

set_option maxRecDepth 100000 in
theorem defReads_long (A : Option Addr) (n c : Nat) (w : World) (hn : 600 < n) (hn2 : n ≤ 9223372036854775807) :
    Calls Tryd.prog 3 #[.slice A n c] w fun x w' => x = .returned (.bool true) ∧ Below w.heap.size w w' := by
  have hbb : (600 : Int) < (n : Int) := by omega
  go_enter Tryd.func3, Tryd.ntmps3
  go_wp2_with (go_at_call 6; refine (awake_calls w).mono ?_; rintro e0 w0 ⟨rfl, hb0⟩; have HB0 := Lib.hid hb0; clear hb0)
  refine (awake_calls w0).mono ?_
  rintro e1 w1 ⟨rfl, hb1⟩
  have HB1 := Lib.hid (below_then HB0.out hb1)
  clear hb1
  go_wp2
  go_ret
  exact ⟨rfl, HB1.out⟩
end Go.Proofs.YtoiaancehakiiaaDoor.Q
