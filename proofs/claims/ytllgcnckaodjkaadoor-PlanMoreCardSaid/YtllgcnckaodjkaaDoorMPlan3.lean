/- The walk of plan.Order. -/
import Derived.Test.YtllgcnckaodjkaaDoorMPlan2
import Derived.Deep.LoopGhost
import Derived.Deep.RegionLaw
namespace Go.Proofs.YtllgcnckaodjkaaDoor.Q
open Go.RowKit Go.Proofs.YtllgcnckaodjkaaDoor.Plain Go.Proofs.YtllgcnckaodjkaaDoorW.PrintWords

def firstFree (ps : PackL) (l : List Nat) : Option Nat := l.findIdx? fun i => !waitB ps (ndP ps i) l
/-- the plan: from what is left, and what is planned -/
def orderGo (ps : PackL) : Nat → List Nat → List Nat → List Nat ⊕ ByteArray
  | 0, _, out => .inl out
  | f + 1, l, out => match firstFree ps l with
    | none => .inr (nmP ps (l.getD 0 0))
    | some k => orderGo ps f (l.eraseIdx k) (out ++ [l.getD k 0])
def OrderPost (w : World) (res : List Nat ⊕ ByteArray) (e : Ending) (w' : World) : Prop :=
  match res with
  | .inl out => ∃ v : Value, e = .returned (.tuple #[v, .int .i64 0, .string ⟨#[]⟩]) ∧ Kd.R (Kd.int .i64) 3 w' w.heap.size (fun _ => True) v (ints out) ∧ Below w.heap.size w w'
  | .inr nm => e = .returned (.tuple #[.slice none 0 0, .int .i64 71, .string nm]) ∧ Below w.heap.size w w'

theorem Fr.of_grown {w w1 : World} {row : Option Nat} (h : w.grownBy w1 row) : Fr (fun k => row = some k) w w1 := ⟨h.os, h.tape, h.output, h.size, fun i hi hn => h.block i hi (fun e => hn e.symm)⟩
structure OrdRel (w1 : World) (Bv g cap : Nat) (Ap : Option Addr) (cp : Nat) (ps : PackL) (l out : List Nat) (v : Value) (wx : World) : Prop where
  left : LeftAt wx g cap l
  lt : ∀ i ∈ l, i < ps.length
  out : Kd.R (Kd.int .i64) 3 wx w1.heap.size (fun k => k ≠ g) v (ints out)
  box : wx.cell? ⟨Bv, 0, none⟩ = some (.slice Ap ps.length cp)
  below : Below w1.heap.size w1 wx
theorem firstFree_some {ps : PackL} {l : List Nat} {j : Nat} (hj : j < l.length) (hw : ∀ i, i < j → waitB ps (ndP ps (l.getD i 0)) l = true) (hf : waitB ps (ndP ps (l.getD j 0)) l = false) : firstFree ps l = some j := by
  unfold firstFree
  rw [List.findIdx?_eq_some_iff_getElem]
  refine ⟨hj, ?_, fun i hi => ?_⟩
  · have : l.getD j 0 = l[j] := by simp [List.getD_eq_getElem?_getD, hj]
    rw [this] at hf
    simp [hf]
  · have hil : i < l.length := by omega
    have h := hw i hi
    have : l.getD i 0 = l[i] := by simp [List.getD_eq_getElem?_getD, hil]
    rw [this] at h
    simp [h]
theorem firstFree_none {ps : PackL} {l : List Nat} (hw : ∀ i, i < l.length → waitB ps (ndP ps (l.getD i 0)) l = true) : firstFree ps l = none := by
  unfold firstFree
  rw [List.findIdx?_eq_none_iff]
  intro x hx
  obtain ⟨i, hi, rfl⟩ := List.mem_iff_getElem.1 hx
  have h := hw i hi
  have : l.getD i 0 = l[i] := by simp [List.getD_eq_getElem?_getD, hi]
  rw [this] at h
  simp [h]

theorem infoInt : (Tryd.prog.info? 3).map (fun i => (i.zero, i.size, i.bytes)) = some (some (.int .i64 0), 1, 8) := by kernel_rfl

theorem order_err (w : World) (Ath Ap : Option Addr) (cth cp : Nat) (th : List ByteArray) (ps : PackL) (c : Int) (nm : ByteArray) (k : Nat) (hCt : Kd.string.C w Ath th.length th) (hct : th.length ≤ cth) (hCp : Kd.C k34 w Ap ps.length ps) (hcp : ps.length ≤ cp) (hf : plan_first.f k th ps = some (c, nm)) (hc : c ≠ 0) :
    Calls Tryd.prog 10 #[.slice Ath th.length cth, .slice Ap ps.length cp] w fun e w' => e = .returned (.tuple #[.slice none 0 0, .int .i64 c, .string nm]) ∧ Below w.heap.size w w' := by
  have hfirst : Hid (∀ W, Below w.heap.size w W → Calls Tryd.prog 20 #[.slice Ath th.length cth, .slice Ap ps.length cp] W fun e w' => e = .returned (.tuple #[.int .i64 c, .string nm]) ∧ Below W.heap.size W w') := Lib.hid (fun W hW => plan_first.calls k Ath cth th Ap cp ps c nm W (Kd.C_below hCt hW) hct (Kd.C_below hCp hW) hcp hf)
  have hcb : (c != 0) = true := bne_iff_ne.2 hc
  clear hCt hct hCp hcp hf hc
  go_enter Tryd.func10, Tryd.ntmps10
  go_wp2
  go_step3
  go_wp2_with (go_at_call 20; refine (hfirst.out _ (below_alloc (Below.refl _ w) _)).mono ?_; rintro e1 w1 ⟨rfl, hb1⟩; have HB1 := Lib.hid (below_then (below_alloc (Below.refl _ w) _) (by rw [World.size_alloc]; omega) hb1); clear hb1)
  try rw [Exit.noGoto_ret]
  go_ret3
  exact ⟨rfl, HB1.out⟩

theorem left_of_R {w : World} {base : Nat} {ok : Nat → Prop} {v : Value} {l : List Nat} (h : Kd.R (Kd.int .i64) 3 w base ok v (ints l)) (hp : 0 < l.length) : ∃ g cap, v = .slice (some ⟨g, 0, none⟩) l.length cap ∧ base ≤ g ∧ LeftAt w g cap l := by
  have ho := Kd.own_of_R (enc := Value.int .i64) (h1 := fun _ => rfl) h
  have hl : (ints l).length = l.length := by simp [ints]
  rcases ho.2 with ⟨_, h0⟩ | ⟨g, cap, cur, hv, hg, hb, h1, h2, h3, h4⟩
  · omega
  · rw [hl] at hv h1 h4
    refine ⟨g, cap, hv, hg, ⟨⟨cur, hb, by omega⟩, h1, h2, fun j hj => ?_⟩⟩
    rw [blk_cell hb]
    have h5 : (cur.toList.take (l.length * 1))[j]? = (encs (Value.int .i64) (ints l))[j]? := by rw [h4]
    rw [List.getElem?_take_of_lt (by omega), Array.getElem?_toList] at h5
    rw [h5]
    simp [encs, ints, List.getD_eq_getElem?_getD, hj]
theorem R_to_left {w : World} {base : Nat} {v : Value} {l : List Int} {ok : Nat → Prop} (h : Kd.R (Kd.int .i64) 3 w base ok v l) (ok2 : Nat → Prop) (h2 : ∀ k, v.ownBlock = some k → ok2 k) : Kd.R (Kd.int .i64) 3 w base ok2 v l := Kd.R_of_own (Kd.own_of_R (enc := Value.int .i64) (h1 := fun _ => rfl) h) h2

/-- the head of plan.Order, up to the sorted list -/
def HeadRel (w : World) (Bv : Nat) (Ap : Option Addr) (cp : Nat) (ps : PackL) (v : Value) (k : Nat) (wx : World) : Prop :=
  Kd.R (Kd.int .i64) 3 wx w.heap.size (fun _ => True) v (ints (List.range k)) ∧ wx.cell? ⟨Bv, 0, none⟩ = some (.slice Ap ps.length cp) ∧ Below w.heap.size w wx

set_option maxHeartbeats 4000000 in
set_option maxRecDepth 100000 in
theorem order_calls (w : World) (Ath Ap : Option Addr) (cth cp : Nat) (th : List ByteArray) (ps : PackL) (k : Nat) (hCt : Kd.string.C w Ath th.length th) (hct : th.length ≤ cth) (hCp : Kd.C k34 w Ap ps.length ps) (hcp : ps.length ≤ cp) (hf : plan_first.f k th ps = some (0, ⟨#[]⟩)) (h12 : ps.length ≤ 12) (hpos : 0 < ps.length) :
    Calls Tryd.prog 10 #[.slice Ath th.length cth, .slice Ap ps.length cp] w fun e w' => ∃ l, l.Perm (List.range ps.length) ∧ sortedP ps l ∧ OrderPost w (orderGo ps ps.length l []) e w' := by
  have hfirst : Hid (∀ W, Below w.heap.size w W → Calls Tryd.prog 20 #[.slice Ath th.length cth, .slice Ap ps.length cp] W fun e w' => e = .returned (.tuple #[.int .i64 0, .string ⟨#[]⟩]) ∧ Below W.heap.size W w') := Lib.hid (fun W hW => plan_first.calls k Ath cth th Ap cp ps 0 ⟨#[]⟩ W (Kd.C_below hCt hW) hct (Kd.C_below hCp hW) hcp hf)
  have HCP := Lib.hid hCp
  have hlenp := hCp.2.1
  clear hCt hct hCp hcp hf
  go_enter Tryd.func10, Tryd.ntmps10
  go_wp2
  go_step3
  go_wp2_with (go_at_call 20; refine (hfirst.out _ (below_alloc (Below.refl _ w) _)).mono ?_; rintro e1 w1 ⟨rfl, hb1⟩; have HB1 := Lib.hid (below_then (below_alloc (Below.refl _ w) _) (by rw [World.size_alloc]; omega) hb1); have hbv1 : w1.cell? ⟨w.heap.size, 0, none⟩ = some (.slice Ap ps.length cp) := (blk_cell ((hb1.block w.heap.size (by rw [World.size_alloc]; omega)).trans (heap_alloc_new w _)) 0).trans rfl; clear hb1)
  clear hfirst
  go_loopg [9, 26] ps.length (fun g v9 v26 wx => ∃ k : Nat, k + g = ps.length ∧ v26 = .int .i64 k ∧ HeadRel w1 w.heap.size Ap cp ps v9 k wx)
  case atStart => exact ⟨0, by omega, rfl, Kd.R_nil _ _ _ _ _, hbv1, Below.refl _ _⟩
  case round =>
    obtain ⟨k, hkg, rfl, hR, hbv, hbx⟩ := hrel
    have HBV1 := Lib.hid hbv1
    clear hbv1
    cases gk with
    | succ g1 =>
      have hlt : (k : Int) < (ps.length : Int) := by omega
      have hl16 : ((ints (List.range k)).length + 1) * 8 ≤ 140737488355328 := by simp [ints]; omega
      have hle := hbx.size
      have HR := Lib.hid hR
      clear hR
      go_wp2_with (at_builtin; refine Kd.R_append (Kd.int .i64) (w0 := w1) (W := wr) w1.heap.size rfl (.tmp 29) (.tmp 31) 27 3 (.int .i64 0) 8 rfl Tryd.underlying27 infoInt rfl (by decide) (by decide) _ (ints (List.range k)) (k : Int) [.int .i64 k] (fun _ => True) (fun _ => False) rfl rfl ?aP (fun _ hk => hk.elim) ?aF ?aO ?aB ?aS ?aL ?_; (case aP => exact rfl); (case aF => exact (fun _ _ => trivial)); (case aO => exact HR.out); (case aB => exact hbx); (case aS => exact hle); (case aL => exact hl16); intro v3 w3 hO3 hb3 hg3 hat3; obtain ⟨A3, c3, rfl⟩ := Kd.R_slice hO3)
      have hr : ints (List.range (k + 1)) = ints (List.range k) ++ [(k : Int)] := by simp [ints, List.range_succ]
      rw [List.length_append, List.length_singleton] at hO3
      have hbv3 : w3.cell? ⟨w.heap.size, 0, none⟩ = some (.slice Ap ps.length cp) := (hb3.cell (p := ⟨w.heap.size, 0, none⟩) (World.block_lt_of_cell? w1 _ HBV1.out)).trans HBV1.out
      go_roundg g1
      case measure => omega
      case rel => exact ⟨k + 1, by omega, by go_num, by show Kd.R _ _ _ _ _ _ (ints (List.range (k + 1))); rw [hr]; exact hO3, hbv3, hb3⟩
    | zero =>
      obtain rfl : k = ps.length := by omega
      have hg1 : w.heap.size < w1.heap.size := World.block_lt_of_cell? w1 _ HBV1.out
      obtain ⟨g, cap, hv, hbg, hL⟩ := left_of_R hR (by simpa using hpos)
      have hapl : ∀ ad, Ap = some ad → ad.block < w.heap.size := by
        intro ad e
        obtain ⟨ad', e', hc⟩ := name_cell HCP.out 0 hpos
        rw [e] at e'
        cases e'
        have := World.block_lt_of_cell? w _ hc
        rwa [Q.add_block] at this
      have hCPx : Kd.C k34 wr Ap ps.length ps := Kd.C_below (Kd.C_below HCP.out HB1.out) hbx
      have hsort := sort_calls wr w.heap.size g cap Ap cp ps (List.range ps.length) hL (fun i hi => List.mem_range.1 hi) (by simpa using h12) (by simpa using hpos) hbv hCPx (by omega) (fun ad e => by have := hapl ad e; omega)
      rw [List.length_range] at hv hsort
      subst hv
      have HS := Lib.hid hsort
      have HBX := Lib.hid hbx
      have HBV := Lib.hid hbv
      clear hsort hR hL hCPx hbx hbv
      go_wp2_with (go_at_call 21; refine HS.out.mono ?_; rintro e2 w2 ⟨rfl, l0, hp0, hso, hL0, hf0⟩; have HP0 := Lib.hid hp0; have HSO := Lib.hid hso; have HL0 := Lib.hid hL0; have HF0 := Lib.hid hf0; clear hp0 hso hL0 hf0)
      have hlen0 : l0.length = ps.length := by rw [HP0.out.length_eq, List.length_range]
      obtain ⟨fin, hfin⟩ : ∃ fin, orderGo ps ps.length l0 [] = fin := ⟨_, rfl⟩
      have HFIN := Lib.hid hfin
      have HLEN0 := Lib.hid hlen0
      have hrel0 : Hid (OrdRel w1 w.heap.size g cap Ap cp ps l0 [] (.slice none 0 0) w2) := Lib.hid ⟨HL0.out, fun i hi => by have := HP0.out.mem_iff.1 hi; exact List.mem_range.1 this, Kd.R_nil _ _ _ _ _, HF0.out.cell HBV.out (by show ¬ w.heap.size = g; omega), HBX.out.trans (HF0.out.belowB (B := w1.heap.size) (fun k hk => by omega) HBX.out.size)⟩
      clear HS HBX HBV HL0 HF0 hlen0 hfin
      try go_step3
      go_wp2
      go_loopg [9, 10] ps.length (fun gk v9 v10 wx => ∃ (l out : List Nat), Hid (l.length = gk) ∧ v9 = .slice (some ⟨g, 0, none⟩) l.length cap ∧ Hid (out.length + gk = ps.length) ∧ Hid (OrdRel w1 w.heap.size g cap Ap cp ps l out v10 wx) ∧ Hid (orderGo ps gk l out = fin))
      case atStart => exact ⟨l0, [], Lib.hid HLEN0.out, by rw [HLEN0.out], Lib.hid (by simp), hrel0, Lib.hid HFIN.out⟩
      case round =>
        obtain ⟨l, out, HLL, rfl, HOL, HREL, HGO⟩ := hrel
        cases gk with
        | zero =>
          have h0 : ¬ (0 : Int) < (l.length : Int) := by have := HLL.out; omega
          go_wp2
          try rw [Exit.noGoto_ret]
          go_ret3
          refine ⟨l0, HP0.out, HSO.out, ?_⟩
          rw [HFIN.out, ← HGO.out]
          exact ⟨_, rfl, Kd.R_lower (Kd.R_mono HREL.out.out (fun _ _ => trivial)) HB1.out.size, HB1.out.trans (HREL.out.below.mono HB1.out.size)⟩
        | succ gl =>
          have h0 : (0 : Int) < (l.length : Int) := by have := HLL.out; omega
          have h0d : decide (0 < l.length) = true := decide_eq_true (by omega)
          have hl12 : l.length ≤ 12 := by have h1 := HLL.out; have h2 := HOL.out; omega
          obtain ⟨wo, hwo⟩ : ∃ wo : World, wo = wr := ⟨_, rfl⟩
          subst hwo
          obtain ⟨V10, hV10⟩ : ∃ V10 : Value, V10 = u10 := ⟨_, rfl⟩
          subst hV10
          go_wp2
          go_loopg [9, 10, 42] l.length (fun g2 v9 vo v42 wy => ∃ j : Nat, j + g2 = l.length ∧ v42 = .int .i64 j ∧ v9 = .slice (some ⟨g, 0, none⟩) l.length cap ∧ V10 = vo ∧ Hid (Below wo.heap.size wo wy) ∧ Hid (∀ i, i < j → waitB ps (ndP ps (l.getD i 0)) l = true))
          case atStart => exact ⟨0, by omega, rfl, rfl, rfl, Lib.hid (Below.refl _ _), Lib.hid (fun i hi => absurd hi (Nat.not_lt_zero _))⟩
          case round =>
            obtain ⟨j, hjg, rfl, rfl, rfl, HBY, HNO⟩ := hrel
            have HLy := Lib.hid (HREL.out.left.fr (Fr.of_below (fun _ => False) HBY.out) (fun h => h))
            have HBOX := Lib.hid (pw_cell_below HBY.out HREL.out.box)
            have HB1y := Lib.hid (HREL.out.below.trans (HBY.out.mono HREL.out.below.size))
            have HCy := Lib.hid (Kd.C_below (Kd.C_below HCP.out HB1.out) HB1y.out)
            cases gk with
            | zero =>
              obtain rfl : j = l.length := by omega
              have hGO : Hid (Sum.inr (nmP ps (l.getD 0 0)) = fin) := Lib.hid (by rw [← HGO.out, orderGo, firstFree_none HNO.out])
              have hl0 : 0 < l.length := by have := HLL.out; omega
              have hc0 := HLy.out.cells 0 hl0
              obtain ⟨x, hx⟩ : ∃ x, l.getD 0 0 = x := ⟨_, rfl⟩
              have hxlt : x < ps.length := by rw [← hx]; exact HREL.out.lt _ (by rw [List.getD_eq_getElem?_getD, List.getElem?_eq_getElem hl0]; exact List.getElem_mem hl0)
              rw [hx] at hc0 hGO
              clear hx
              obtain ⟨ad, rfl, hn⟩ := name_cell HCy.out x hxlt
              generalize nmP ps x = nm at *
              have hx0 : (0 : Int) ≤ (x : Int) := by omega
              have hx1 : (x : Int) < (ps.length : Int) := by omega
              have HSd : Hid (wr.drew.cell? ⟨w.heap.size, 0, none⟩ = some (.slice (some ad) ps.length cp) ∧ wr.drew.cell? ⟨g, 0, none⟩ = some (.int .i64 x) ∧ wr.drew.cell? (ad.add (x * 4)) = some (.string nm)) := Lib.hid ⟨HBOX.out, hc0, hn⟩
              clear hc0 hn
              go_wp2
              go_region_held3 (fun W => W.cell? ⟨w.heap.size, 0, none⟩ = some (.slice (some ad) ps.length cp) ∧ W.cell? ⟨g, 0, none⟩ = some (.int .i64 x) ∧ W.cell? (ad.add (x * 4)) = some (.string nm)) (exact HSd.out) (fail)
              go_wp2
              try rw [Exit.noGoto_ret]
              go_ret3
              refine ⟨l0, HP0.out, HSO.out, ?_⟩
              rw [HFIN.out, ← hGO.out]
              exact ⟨rfl, HB1.out.trans ((below_drew HB1y.out).mono HB1.out.size)⟩
            | succ g2 =>
              have hj : j < l.length := by omega
              have hji : (j : Int) < (l.length : Int) := by omega
              have hcj := HLy.out.cells j hj
              obtain ⟨x, hx⟩ : ∃ x, l.getD j 0 = x := ⟨_, rfl⟩
              have hxlt : x < ps.length := by rw [← hx]; exact HREL.out.lt _ (by rw [List.getD_eq_getElem?_getD, List.getElem?_eq_getElem hj]; exact List.getElem_mem hj)
              rw [hx] at hcj
              have HX := Lib.hid hx
              obtain ⟨ad, A2, c2, A3, c3, rfl, ha0, ha1, ha2, ha3, hl2, hC2, hl3, hC3⟩ := at_T34 HCy.out (x : Int) (by omega) (by omega)
              simp only [Int.toNat_natCast] at ha0 ha1 ha2 ha3
              have hnd : Hid (waitB ps (ndP ps x) l = waitB ps (rd_T34 ps (x : Int)).f2 l) := Lib.hid rfl
              generalize (rd_T34 ps (x : Int)).f0 = nm at *
              generalize (rd_T34 ps (x : Int)).f1 = ver at *
              generalize (rd_T34 ps (x : Int)).f2 = nd at *
              generalize (rd_T34 ps (x : Int)).f3.length = n3 at *
              have hx0 : (0 : Int) ≤ (x : Int) := by omega
              have hx1 : (x : Int) < (ps.length : Int) := by omega
              have hww : Hid (∀ W, Below wr.heap.size wr W → Calls Tryd.prog 23 #[.agg #[.string nm, .int .i64 ver, .slice A2 nd.length c2, .slice A3 n3 c3], .slice (some ⟨g, 0, none⟩) l.length cap, .slice (some ad) ps.length cp] W fun e w' => e = .returned (.bool (waitB ps nd l)) ∧ Below W.heap.size W w') :=
                Lib.hid (fun W hW => waits_calls W nm ver A2 A3 (some ⟨g, 0, none⟩) (some ad) c2 n3 c3 cap cp nd l ps (Kd.C_below hC2 hW) hl2 (Kd.C_below HCy.out hW) (Kd.C_below HLy.out.C hW) HREL.out.lt)
              have HSd : Hid ((fun W => W.cell? ⟨w.heap.size, 0, none⟩ = some (.slice (some ad) ps.length cp) ∧ W.cell? (ad.add (x * 4)) = some (.string nm) ∧ W.cell? ⟨(ad.add (x * 4)).block, (ad.add (x * 4)).off + 1, none⟩ = some (.int .i64 ver) ∧ W.cell? ⟨(ad.add (x * 4)).block, (ad.add (x * 4)).off + 2, none⟩ = some (.slice A2 nd.length c2) ∧ W.cell? ⟨(ad.add (x * 4)).block, (ad.add (x * 4)).off + 3, none⟩ = some (.slice A3 n3 c3)) wr.drew) := Lib.hid ⟨HBOX.out, ha0, ha1, ha2, ha3⟩
              have HSW : Hid (∀ W, Below wr.heap.size wr.drew W → (fun W => W.cell? ⟨w.heap.size, 0, none⟩ = some (.slice (some ad) ps.length cp) ∧ W.cell? (ad.add (x * 4)) = some (.string nm) ∧ W.cell? ⟨(ad.add (x * 4)).block, (ad.add (x * 4)).off + 1, none⟩ = some (.int .i64 ver) ∧ W.cell? ⟨(ad.add (x * 4)).block, (ad.add (x * 4)).off + 2, none⟩ = some (.slice A2 nd.length c2) ∧ W.cell? ⟨(ad.add (x * 4)).block, (ad.add (x * 4)).off + 3, none⟩ = some (.slice A3 n3 c3)) W) := Lib.hid (fun W hW0 => by have hW := below_then (below_drew (Below.refl wr.heap.size wr)) (Nat.le_refl _) hW0; exact ⟨pw_cell_below hW HBOX.out, pw_cell_below hW ha0, pw_cell_below hW ha1, pw_cell_below hW ha2, pw_cell_below hW ha3⟩)
              clear hl2 hC2 hl3 hC3 hx ha0 ha1 ha2 ha3 hxlt
              obtain ⟨bw, hbw⟩ : ∃ bw, waitB ps nd l = bw := ⟨_, rfl⟩
              rw [hbw] at hww hnd
              clear hbw
              go_wp2
              go_region_held3 (fun W => W.cell? ⟨w.heap.size, 0, none⟩ = some (.slice (some ad) ps.length cp) ∧ W.cell? (ad.add (x * 4)) = some (.string nm) ∧ W.cell? ⟨(ad.add (x * 4)).block, (ad.add (x * 4)).off + 1, none⟩ = some (.int .i64 ver) ∧ W.cell? ⟨(ad.add (x * 4)).block, (ad.add (x * 4)).off + 2, none⟩ = some (.slice A2 nd.length c2) ∧ W.cell? ⟨(ad.add (x * 4)).block, (ad.add (x * 4)).off + 3, none⟩ = some (.slice A3 n3 c3)) (first | exact HS5.out | exact HSd.out)
                (first
                | (go_at_call 23; refine (hww.out _ (below_drew (Below.refl _ wr))).mono ?_; rintro e5 w5 ⟨rfl, hb5⟩; have HB5 := Lib.hid (below_then (below_drew (Below.refl wr.heap.size wr)) (Nat.le_refl _) hb5); have HS5 := Lib.hid (HSW.out w5 hb5); clear hb5))
              clear HSd HSW HS5 hww hcj
              cases bw
              · have hff : Hid (orderGo ps gl (l.eraseIdx j) (out ++ [x]) = fin) := Lib.hid (by rw [← HGO.out, orderGo, firstFree_some hj HNO.out (by rw [HX.out]; exact hnd.out)]; simp only; rw [HX.out])
                have hR5 := Lib.hid (Kd.R_below (Kd.R_below HREL.out.out HBY.out) HB5.out)
                have hL5 := Lib.hid (HLy.out.fr (Fr.of_below (fun _ => False) HB5.out) (fun h => h))
                have hB15 := Lib.hid (HB1y.out.trans (HB5.out.mono HB1y.out.size))
                have hl16 : ((ints out).length + 1) * 8 ≤ 140737488355328 := by have := HOL.out; simp [ints]; omega
                have hle5 := hB15.out.size
                have hnw : Hid (¬ V10.ownBlock = some g) := Lib.hid (fun e => hR5.out.1 g e rfl)
                have hdel : Hid (∀ W, LeftAt W g cap l → Calls Tryd.prog 24 #[.slice (some ⟨g, 0, none⟩) l.length cap, .int .i64 j, .int .i64 ((j : Int) + 1)] W fun e w' => e = .returned (.slice (some ⟨g, 0, none⟩) (l.eraseIdx j).length cap) ∧ LeftAt w' g cap (l.eraseIdx j) ∧ Fr (fun k => k = g) W w') := Lib.hid (fun W hW => by
                  have h := delete_calls W g cap l j hW hj
                  rw [show (((j + 1 : Nat)) : Int) = (j : Int) + 1 from by omega] at h
                  exact h)
                have hjw : IntKind.i64.wrap ((j : Int) + 1) = (j : Int) + 1 := IntWalk.i64_in _ (by have := HLL.out; have := HOL.out; omega)
                clear HNO hnd
                go_wp2_with (first
                | (at_builtin; refine Kd.R_append (Kd.int .i64) (w0 := w1) (W := w5) w1.heap.size rfl (.tmp 55) (.tmp 57) 27 3 (.int .i64 0) 8 rfl Tryd.underlying27 infoInt rfl (by decide) (by decide) V10 (ints out) (x : Int) [.int .i64 x] (fun k => k ≠ g) (fun _ => False) rfl rfl ?aP (fun _ hk => hk.elim) ?aF ?aO ?aB ?aS ?aL ?_; (case aP => exact rfl); (case aF => exact (fun k hk => by have := hL5.out.lt; omega)); (case aO => exact hR5.out); (case aB => exact hB15.out); (case aS => exact hle5); (case aL => exact hl16); intro v3 w3 hO3 hb3 hg3 hat3; obtain ⟨A3, c3, rfl⟩ := Kd.R_slice hO3; have hL3 := Lib.hid (hL5.out.fr (Fr.of_grown hg3) (fun h => hnw.out h)); have hO3 := Lib.hid hO3; have hb3 := Lib.hid hb3; clear hg3 hat3)
                | (go_at_call 24; refine (hdel.out _ hL3.out).mono ?_; rintro e6 w6 ⟨rfl, hL6, hf6⟩; have hL6 := Lib.hid hL6; have hf6 := Lib.hid hf6))
                have hlen6 : (l.eraseIdx j).length = l.length - 1 := by rw [List.length_eraseIdx, if_pos hj]
                have HLL6 := Lib.hid hlen6
                clear hlen6
                have hbx3 : w3.cell? ⟨w.heap.size, 0, none⟩ = some (.slice (some ad) ps.length cp) := (hb3.out.cell (p := ⟨w.heap.size, 0, none⟩) hg1).trans HBV1.out
                have HO6 : Hid (OrdRel w1 w.heap.size g cap (some ad) cp ps (l.eraseIdx j) (out ++ [x]) (.slice A3 (ints out ++ [(x : Int)]).length c3) w6) := Lib.hid ⟨hL6.out, fun i hi => HREL.out.lt i (List.mem_of_mem_eraseIdx hi), by
                  have he : ints (out ++ [x]) = ints out ++ [(x : Int)] := by simp [ints]
                  rw [he]
                  exact Kd.R_step hO3.out (fun k hk hlt => hf6.out.block k hlt hk), hf6.out.cell hbx3 (by show ¬ w.heap.size = g; omega), hb3.out.trans (hf6.out.belowB (B := w1.heap.size) (fun k hk => by omega) hb3.out.size)⟩
                have HOL6 : Hid ((out ++ [x]).length + gl = ps.length) := Lib.hid (by have := HOL.out; rw [List.length_append, List.length_singleton]; omega)
                have HLL7 : Hid ((l.eraseIdx j).length = gl) := Lib.hid (by rw [HLL6.out]; have := HLL.out; omega)
                go_roundg gl
                case measure => omega
                case rel => exact ⟨l.eraseIdx j, out ++ [x], HLL7, rfl, HOL6, by first | exact HO6 | (simp only [List.length_append, List.length_singleton] at HO6; exact HO6), hff⟩
              · have HN2 : Hid (∀ i, i < j + 1 → waitB ps (ndP ps (l.getD i 0)) l = true) := Lib.hid (fun i hi => by
                  by_cases e : i = j
                  · subst e; rw [HX.out]; exact hnd.out
                  · exact HNO.out i (by omega))
                clear hnd
                go_wp2
                go_roundg g2
                case measure => omega
                case rel => exact ⟨j + 1, by omega, by go_num, rfl, rfl, Lib.hid (below_then HBY.out HBY.out.size HB5.out), HN2⟩
end Go.Proofs.YtllgcnckaodjkaaDoor.Q
