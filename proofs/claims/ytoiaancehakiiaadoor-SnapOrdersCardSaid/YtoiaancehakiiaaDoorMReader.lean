/- The walks of octet.Reader's methods fail, get, Num, Text, Left, Err, by hand: for every state of a reader. -/
import Derived.Test.YtoiaancehakiiaaDoorFrame
import Derived.Test.YtoiaancehakiiaaDoorPlainOctet
import Derived.Test.YtoiaancehakiiaaDoorProg
import Derived.WalkKit
import Derived.Below
import Derived.Lib.Hide
import Derived.Laws.BitsLemmas
import Derived.Laws.Bits64
namespace Go.Proofs.YtoiaancehakiiaaDoor.Q
open Go.RowKit Go.Proofs.YtoiaancehakiiaaDoor.Plain Go.Proofs.YtoiaancehakiiaaDoorW.PrintWords

/-- a reader at block g: what is left of the octets, and the error; the octets lie in an older block -/
def Rd (w : World) (g : Nat) (B : ByteArray) (e : Int) : Prop :=
  ∃ A c, w.heap[g]? = some (.cells #[.slice A B.size c, .int .i64 e] 62 (0, 0)) ∧ B.size ≤ c ∧ (∀ ad, A = some ad → ad.block < g) ∧ (Kd.int .u8).C w A B.size (bytesOf B)
theorem Rd.fr {S : Nat → Prop} {w w' : World} {g : Nat} {B : ByteArray} {e : Int} (h : Rd w g B e) (hf : Fr S w w') (hs : ∀ k, S k → g < k) : Rd w' g B e := by
  obtain ⟨A, c, hb, hc, hA, hC⟩ := h
  exact ⟨A, c, hf.heap hb (fun hk => absurd (hs _ hk) (Nat.lt_irrefl _)), hc, hA, hf.int hC (fun ad e _ hk => absurd (Nat.lt_trans (hs _ hk) (hA ad e)) (Nat.lt_irrefl _))⟩
theorem Rd.lt {w : World} {g : Nat} {B : ByteArray} {e : Int} (h : Rd w g B e) : g < w.heap.size := by
  obtain ⟨A, c, hb, _⟩ := h
  exact blk_lt hb
theorem Rd.size {w : World} {g : Nat} {B : ByteArray} {e : Int} (h : Rd w g B e) : B.size ≤ 9223372036854775807 := by
  obtain ⟨A, c, hb, hc, hA, hC⟩ := h
  exact hC.2.1
theorem Rd.err {w : World} {g : Nat} {B : ByteArray} {e : Int} (h : Rd w g B e) (x : Int) : Rd (w.setCell ⟨g, 1, none⟩ (.int .i64 x)) g B x := by
  obtain ⟨A, c, hb, hc, hA, hC⟩ := h
  refine ⟨A, c, by simpa using blk_set hb 1 (.int .i64 x), hc, hA, (Fr.set_ (S := fun k => k = g) w _ _ rfl).int hC (fun ad e _ hk => ?_)⟩
  have := hA ad e
  omega
/-- the octets' slice is laid anew: a cut of them -/
theorem Rd.lay {w : World} {g : Nat} {B B' : ByteArray} {e : Int} {A A' : Option Addr} {c c' : Nat} (hb : w.heap[g]? = some (.cells #[.slice A B.size c, .int .i64 e] 62 (0, 0))) (hc : B'.size ≤ c') (hA : ∀ ad, A' = some ad → ad.block < g) (hC : (Kd.int .u8).C w A' B'.size (bytesOf B')) : Rd (w.setCell ⟨g, 0, none⟩ (.slice A' B'.size c')) g B' e := by
  refine ⟨A', c', by simpa using blk_set hb 0 (.slice A' B'.size c'), hc, hA, (Fr.set_ (S := fun k => k = g) w _ _ rfl).int hC (fun ad e _ hk => ?_)⟩
  have := hA ad e
  omega

def RdPost (w : World) (g : Nat) (v : Value) (B : ByteArray) (x : Int) (e : Ending) (w' : World) : Prop := e = .returned v ∧ Rd w' g B x ∧ Fr (fun k => k = g) w w'

theorem fail_calls (g : Nat) (B : ByteArray) (e x : Int) (w : World) (h : Rd w g B e) :
    Calls Tryd.prog 57 #[.pointer (some ⟨g, 0, none⟩), .int .i64 x] w (RdPost w g (.tuple #[]) B (if e = 0 then x else e)) := by
  have H := Lib.hid h
  obtain ⟨A, c, hb, hc, hA, hC⟩ := h
  have h0 : w.cell? ⟨g, 0, none⟩ = some (.slice A B.size c) := (blk_cell hb 0).trans rfl
  have h1 : w.cell? ⟨g, 1, none⟩ = some (.int .i64 e) := (blk_cell hb 1).trans rfl
  have hz := blk_frozen hb 1
  clear hb hc hA hC
  by_cases he : e = 0
  · subst he
    rw [if_pos rfl]
    go_enter Tryd.func57, Tryd.ntmps57
    go_wp2
    go_end0
    exact ⟨rfl, H.out.err x, Fr.set_ _ _ _ rfl⟩
  · rw [if_neg he]
    have he1 : (e == 0) = false := beq_eq_false_iff_ne.2 he
    have he2 : (e != 0) = true := bne_iff_ne.2 he
    clear he
    go_enter Tryd.func57, Tryd.ntmps57
    go_wp2
    go_end0
    exact ⟨rfl, H.out, Fr.refl _ _⟩

theorem cut_from {P : Program} (t e : TypeId) {i : TypeInfo} (ht : P.underlying t = some (.slice e)) (hi : P.info? e = some i) (hsz : i.size = 1) (A : Option Addr) (n c m : Nat) (hm : m ≤ n) (W : World) :
    (Instr.slice t (.slice A n c) (some (.int .i64 m)) none none).run P W = .ok (.slice (if c = m then A else A.map (·.add (m * 1))) (n - m) (c - m)) W := by
  have hel : P.elem t = e := by simp [Program.elem, ht]
  have hu : P.underlying t = some (.slice (P.elem t)) := by rw [hel]; exact ht
  rw [run_slice_l W t A n c hu .i64 (m : Int) (Int.natCast_nonneg _) (by omega), hel]
  simp [sizeOf, typeInfo, hi, hsz, sliced, Result.andThen]
theorem map_block {A : Option Addr} {c m k g : Nat} (hA : ∀ ad, A = some ad → ad.block < g) : ∀ ad, (if c = m then A else A.map (·.add k)) = some ad → ad.block < g := by
  intro ad h
  split at h
  · exact hA ad h
  · cases A with
    | none => cases h
    | some a =>
      simp only [Option.map_some, Option.some.injEq] at h
      rw [← h, add_block]
      exact hA a rfl
theorem infoU8 : (Tryd.prog.info? 5).map (fun i => (i.zero, i.size, i.bytes)) = some (some (.int .u8 0), 1, 1) := by kernel_rfl
theorem cut_octets (A : Option Addr) (n c m : Nat) (hm : m ≤ n) (W : World) :
    (Instr.slice 22 (.slice A n c) (some (.int .i64 m)) none none).run Tryd.prog W = .ok (.slice (if c = m then A else A.map (·.add (m * 1))) (n - m) (c - m)) W := by
  obtain ⟨i0, hi, hz0, hz1, hz2⟩ := info_parts infoU8
  exact cut_from 22 5 Tryd.underlying22 hi hz1 A n c m hm W

theorem u64_small (n : Int) (h0 : 0 ≤ n) (h1 : n < 2 ^ 40) : IntKind.u64.wrap n = n := by
  rw [IntKind.wrap_u64]
  omega
theorem u64_or8 (n m : Nat) (hn : n < 16777216) (hm : m < 256) : bits .or .u64 ((n : Int) * 256) m = ((n * 256 + m : Nat) : Int) := by
  rw [bits_join .u64 40 (by decide) u64_small 8 (x := (n : Int) * 256) (y := (m : Int)) (by omega) (by omega) (by omega) (by omega) (by omega) (by omega)]
  omega

/-- get(4): a number of four octets, if they are there -/
def rdGet (B : ByteArray) (e : Int) : Int × Bool × Int := if e ≠ 0 then (0, false, e) else if B.size < 4 then (0, false, 10) else ((valL (B.data.toList.take 4) : Nat), true, 0)

set_option maxRecDepth 100000 in
theorem get_calls (g : Nat) (B : ByteArray) (e : Int) (w : World) (h : Rd w g B e) :
    Calls Tryd.prog 56 #[.pointer (some ⟨g, 0, none⟩), .int .i64 4] w (RdPost w g (.tuple #[.int .u64 (rdGet B e).1, .bool (rdGet B e).2.1]) B (rdGet B e).2.2) := by
  have H := Lib.hid h
  have hsz := h.size
  obtain ⟨A, c, hb, hc, hA, hC⟩ := h
  have h0 : w.cell? ⟨g, 0, none⟩ = some (.slice A B.size c) := (blk_cell hb 0).trans rfl
  have h1 : w.cell? ⟨g, 1, none⟩ = some (.int .i64 e) := (blk_cell hb 1).trans rfl
  clear hb hA
  by_cases he : e = 0
  · subst he
    by_cases h4 : B.size < 4
    · have hr : rdGet B 0 = (0, false, 10) := by rw [rdGet, if_neg (by simp), if_pos h4]
      rw [hr]
      have hlt : (B.size : Int) < 4 := by omega
      clear hr h4 hC hc
      go_enter Tryd.func56, Tryd.ntmps56
      go_wp2_with (go_at_call 57; refine (fail_calls g B 0 10 _ H.out).mono ?_; rintro e w' ⟨rfl, hR, hF⟩; have hR := Lib.hid hR; have hF := Lib.hid hF)
      go_ret2
      exact ⟨rfl, hR.out, hF.out⟩
    · have hr : rdGet B 0 = (((valL (B.data.toList.take 4) : Nat) : Int), true, 0) := by rw [rdGet, if_neg (by simp), if_neg h4]
      rw [hr]
      have hlt : ¬ (B.size : Int) < 4 := by omega
      have HC := Lib.hid hC
      clear hr hC
      go_enter Tryd.func56, Tryd.ntmps56
      go_wp2
      go_loop [6, 32] (fun n i => ∃ k : Nat, k ≤ 4 ∧ i = .int .i64 k ∧ n = .int .u64 (valL (B.data.toList.take k))) (fun _ i => 4 - (intOf i).toNat)
      case atStart => exact ⟨0, by omega, rfl, rfl⟩
      case round =>
        obtain ⟨k, hk, rfl, rfl⟩ := hrel
        by_cases hlt4 : k < 4
        · have hlk : k < B.data.toList.length := by rw [list_len]; omega
          obtain ⟨ad, rfl, hcell⟩ := Kd.at_int HC.out (k : Int) (by omega) (by omega)
          have hx : rd (bytesOf B) (k : Int) = ((B.data.toList[k]'hlk).toNat : Int) := by
            simp [rd, bytesOf, List.getD_eq_getElem?_getD, List.getElem?_eq_getElem hlk]
          have hv : valL (B.data.toList.take (k + 1)) = valL (B.data.toList.take k) * 256 + (B.data.toList[k]'hlk).toNat := by
            rw [List.take_succ_eq_append_getElem hlk, valL_snoc]
          have hb := valL_lt (B.data.toList.take k)
          rw [List.length_take, Nat.min_eq_left (by omega)] at hb
          have hb2 : 256 ^ k ≤ 256 ^ 3 := Nat.pow_le_pow_right (by decide) (by omega)
          have hc8 := (B.data.toList[k]'hlk).toNat_lt
          have HV := Lib.hid hv
          have HX := Lib.hid hx
          rw [hx] at hcell
          simp only [Int.toNat_natCast] at hcell
          clear hx hv HX
          generalize valL (B.data.toList.take k) = n at *
          generalize (B.data.toList[k]'hlk).toNat = m at *
          go_wp2
          go_round
          case rel => exact ⟨k + 1, by omega, by go_num, by rw [HV.out, u64_or8 n m (by omega) (by omega)]⟩
          case measure => simp [intOf]; omega
        · go_wp2
          go_ret2
          obtain rfl : k = 4 := by omega
          exact ⟨rfl, H.out, Fr.refl _ _⟩
  · have hr : rdGet B e = (0, false, e) := by rw [rdGet, if_pos he]
    rw [hr]
    have he1 : (e == 0) = false := beq_eq_false_iff_ne.2 he
    have he2 : (e != 0) = true := bne_iff_ne.2 he
    have hf := fail_calls g B e 10 w H.out
    rw [if_neg he] at hf
    have hf := Lib.hid hf
    clear he hC hc hr
    go_enter Tryd.func56, Tryd.ntmps56
    go_wp2_with (go_at_call 57; refine hf.out.mono ?_; rintro e w' ⟨rfl, hR, hF⟩; have hR := Lib.hid hR; have hF := Lib.hid hF)
    go_ret2
    exact ⟨rfl, hR.out, hF.out⟩

theorem RdPost.val {w : World} {g : Nat} {v : Value} {B : ByteArray} {x : Int} {e : Ending} {w' : World} (h : RdPost w g v B x e w') : ∃ A c, e = .returned v ∧ Fr (fun k => k = g) w w' ∧ Rd w' g B x ∧ w'.cell? ⟨g, 0, none⟩ = some (.slice A B.size c) ∧ w'.cell? ⟨g, 1, none⟩ = some (.int .i64 x) ∧ w'.frozen? ⟨g, 0, none⟩ = false ∧ B.size ≤ c ∧ (∀ ad, A = some ad → ad.block < g) ∧ (Kd.int .u8).C w' A B.size (bytesOf B) ∧ w'.heap[g]? = some (.cells #[.slice A B.size c, .int .i64 x] 62 (0, 0)) := by
  obtain ⟨he, hR, hF⟩ := h
  have hR2 := hR
  obtain ⟨A, c, hb, hc, hA, hC⟩ := hR
  exact ⟨A, c, he, hF, hR2, (blk_cell hb 0).trans rfl, (blk_cell hb 1).trans rfl, blk_frozen hb 0, hc, hA, hC, hb⟩

theorem C_cut {w : World} {A : Option Addr} {B : ByteArray} {c m : Nat} (hC : (Kd.int .u8).C w A B.size (bytesOf B)) (hm : m ≤ B.size) (hc : B.size ≤ c) : (Kd.int .u8).C w (if c = m then A else A.map (·.add (m * 1))) (cutB B m).size (bytesOf (cutB B m)) := by
  have hl := bytesOf_length B
  have h := Kd.C_drop (k := Kd.int .u8) (c := c) (m := m) (xs := bytesOf B) (A := A) (w := w) (by rw [hl]; exact hC) (by rw [hl]; exact hm) (by rw [hl]; exact hc)
  rw [← cutB_bytes, bytesOf_length] at h
  exact h

theorem octets_cut {w : World} {A : Option Addr} {B : ByteArray} {c m g : Nat} (hC : (Kd.int .u8).C w A B.size (bytesOf B)) (hc : B.size ≤ c) (hA : ∀ ad, A = some ad → ad.block < g) (hm : m ≤ B.size) :
    ∃ A', (∀ W, (Instr.slice 22 (.slice A B.size c) (some (.int .i64 m)) none none).run Tryd.prog W = .ok (.slice A' (cutB B m).size (c - m)) W) ∧ (∀ ad, A' = some ad → ad.block < g) ∧ (Kd.int .u8).C w A' (cutB B m).size (bytesOf (cutB B m)) ∧ (cutB B m).size ≤ c - m :=
  ⟨_, fun W => by rw [cut_octets A B.size c m hm W, cutB_size], map_block hA, C_cut hC hm hc, by rw [cutB_size]; omega⟩

set_option maxRecDepth 100000 in
theorem num_calls (g : Nat) (B : ByteArray) (e : Int) (w : World) (h : Rd w g B e) :
    Calls Tryd.prog 27 #[.pointer (some ⟨g, 0, none⟩)] w (RdPost w g (.int .i64 (rdNum B e).1) (rdNum B e).2.1 (rdNum B e).2.2) := by
  have hget := get_calls g B e w h
  have HSZ := h.size
  by_cases he : e = 0
  · by_cases h4 : B.size < 4
    · have hr : rdGet B e = (0, false, 10) := by rw [rdGet, if_neg (by simp [he]), if_pos h4]
      have hn : rdNum B e = (0, B, 10) := by rw [rdNum, if_neg (by simp [he]), if_pos h4]
      rw [hr] at hget
      rw [hn]
      have hget := Lib.hid hget
      clear hr hn he h h4
      go_enter Tryd.func27, Tryd.ntmps27
      go_wp2_with (go_at_call 56; refine hget.out.mono ?_; rintro e w' ⟨rfl, hR, hF⟩; have hR := Lib.hid hR; have hF := Lib.hid hF)
      go_ret
      exact ⟨rfl, hR.out, hF.out⟩
    · have hr : rdGet B e = (((valL (B.data.toList.take 4) : Nat) : Int), true, 0) := by rw [rdGet, if_neg (by simp [he]), if_neg h4]
      rw [hr] at hget
      by_cases hbig : valL (B.data.toList.take 4) > 2147483647
      · have hn : rdNum B e = (0, B, 11) := by rw [rdNum, if_neg (by simp [he]), if_neg h4, if_pos hbig]
        rw [hn]
        have hget := Lib.hid hget
        clear hr hn he h h4
        generalize valL (B.data.toList.take 4) = n at *
        go_enter Tryd.func27, Tryd.ntmps27
        go_wp2_with (first | (go_at_call 56; refine hget.out.mono ?_; rintro e w1 ⟨rfl, hR, hF⟩; have hR := Lib.hid hR; have hF := Lib.hid hF) | (go_at_call 57; refine (fail_calls g B 0 11 _ hR.out).mono ?_; rintro e w2 ⟨rfl, hR2, hF2⟩; have hR2 := Lib.hid hR2; have hF2 := Lib.hid hF2))
        go_ret
        exact ⟨rfl, hR2.out, hF.out.step hF2.out⟩
      · have hn : rdNum B e = (((valL (B.data.toList.take 4) : Nat) : Int), cutB B 4, 0) := by rw [rdNum, if_neg (by simp [he]), if_neg h4, if_neg hbig]
        rw [hn]
        have hget := Lib.hid hget
        clear hr hn he h
        generalize valL (B.data.toList.take 4) = n at *
        go_enter Tryd.func27, Tryd.ntmps27
        go_wp2_with (go_at_call 56; refine hget.out.mono ?_; intro e w1 hp; obtain ⟨A, c, rfl, hF, hR, h0, h1, hz, hc, hA, hC, hb⟩ := hp.val; obtain ⟨A', hcut, hA', hC', hc'⟩ := octets_cut (m := 4) hC hc hA (by omega); replace hcut : ∀ W, (Instr.slice 22 (.slice A B.size c) (some (.int .i64 4)) none none).run Tryd.prog W = .ok (.slice A' (cutB B 4).size (c - 4)) W := hcut; have hF := Lib.hid hF; have hN := Lib.hid (Rd.lay (e := 0) hb hc' hA' hC'); clear hR hC hb hA hA' hC' hp)
        go_ret
        exact ⟨rfl, hN.out, hF.out.setCell _ _ rfl⟩
  · have hr : rdGet B e = (0, false, e) := by rw [rdGet, if_pos he]
    have hn : rdNum B e = (0, B, e) := by rw [rdNum, if_pos he]
    rw [hr] at hget
    rw [hn]
    have hget := Lib.hid hget
    clear hr hn he h
    go_enter Tryd.func27, Tryd.ntmps27
    go_wp2_with (go_at_call 56; refine hget.out.mono ?_; rintro e w' ⟨rfl, hR, hF⟩; have hR := Lib.hid hR; have hF := Lib.hid hF)
    go_ret
    exact ⟨rfl, hR.out, hF.out⟩

theorem rdNum_err {B : ByteArray} {e : Int} (h : (rdNum B e).2.2 ≠ 0) : (rdNum B e).2.1 = B := by
  unfold rdNum at h ⊢
  split
  · rfl
  split
  · rfl
  split
  · rfl
  · rename_i h1 h2 h3
    rw [if_neg h1, if_neg h2, if_neg h3] at h
    exact absurd rfl h

theorem octets_head {w : World} {A : Option Addr} {B : ByteArray} {c m : Nat} (hC : (Kd.int .u8).C w A B.size (bytesOf B)) (hm : m ≤ B.size) :
    (convert 22 9 (.slice A m c)).run Tryd.prog w = .ok (.string (B.extract 0 m)) w := by
  have hl := bytesOf_length B
  have h := Kd.C_take (k := Kd.int .u8) (m := m) (xs := bytesOf B) (A := A) (w := w) (by rw [hl]; exact hC) (by rw [hl]; exact hm)
  have hl2 : ((bytesOf B).take m).length = m := by rw [List.length_take, hl]; omega
  rw [hl2] at h
  have h2 := Kd.C_string (P := Tryd.prog) (c := c) Tryd.underlying22 Tryd.underlying5 Tryd.underlying9 h
  rw [h2, ← bytesOf_take, strOfNums_bytesOf]

set_option maxRecDepth 100000 in
theorem text_calls (g : Nat) (B : ByteArray) (e : Int) (w : World) (h : Rd w g B e) :
    Calls Tryd.prog 31 #[.pointer (some ⟨g, 0, none⟩)] w (RdPost w g (.string (rdText B e).1) (rdText B e).2.1 (rdText B e).2.2) := by
  have hnum := num_calls g B e w h
  have HSZ := h.size
  have hnn := rdNum_nonneg B e
  obtain ⟨A, c, hb, hc, hA, hC⟩ := h
  have h0 : w.cell? ⟨g, 0, none⟩ = some (.slice A B.size c) := (blk_cell hb 0).trans rfl
  have HC := Lib.hid hC
  have HA := Lib.hid hA
  clear hb hC hA
  by_cases he : (rdNum B e).2.2 = 0
  · rw [he] at hnum
    obtain ⟨m, hm⟩ := Int.eq_ofNat_of_zero_le hnn.1
    rw [hm] at hnum
    by_cases hbig : ((rdNum B e).2.1.size : Int) < (rdNum B e).1
    · have ht : rdText B e = (ByteArray.empty, B, 10) := by rw [rdText, if_neg (by simp [he]), if_pos hbig]
      rw [ht]
      rw [hm] at hbig
      have hbig : (rdNum B e).2.1.size < m := by omega
      generalize (rdNum B e).2.1 = B1 at hnum hbig hnn
      have hnum := Lib.hid hnum
      have hbb : decide (B1.size < m) = true := decide_eq_true hbig
      clear ht hm he hnn hbig
      go_enter Tryd.func31, Tryd.ntmps31
      go_wp2_with (first | (go_at_call 27; refine hnum.out.mono ?_; intro e1 w1 hp; obtain ⟨A1, c1, rfl, hF, hR, h01, h11, hz1, hc1, hA1, hC1, hb1⟩ := hp.val; have hF := Lib.hid hF; have hR := Lib.hid hR; clear hc1 hA1 hC1 hb1 hp) | (go_at_call 57; refine (fail_calls g B1 0 10 _ hR.out).mono ?_; intro e2 w2 hp2; obtain ⟨A2, c2, rfl, hF2, hR2, h02, h12, hz2, hc2, hA2, hC2, hb2⟩ := hp2.val; have hN := Lib.hid (Rd.lay hb2 hc HA.out ((hF.out.step hF2).int HC.out (fun ad e _ hk => absurd (HA.out ad e) (by omega)))); have hF2 := Lib.hid hF2; clear hR2 hc2 hA2 hC2 hb2 hp2))
      go_ret
      exact ⟨rfl, hN.out, (hF.out.step hF2.out).setCell _ _ rfl⟩
    · have ht : rdText B e = ((rdNum B e).2.1.extract 0 m, cutB (rdNum B e).2.1 m, 0) := by rw [rdText, if_neg (by simp [he]), if_neg hbig, hm, Int.toNat_natCast]
      rw [ht]
      rw [hm] at hbig
      have hbig : m ≤ (rdNum B e).2.1.size := by omega
      generalize (rdNum B e).2.1 = B1 at hnum hbig hnn
      have hnum := Lib.hid hnum
      have hbb : decide (B1.size < m) = false := decide_eq_false (by omega)
      clear ht hm he hnn
      go_enter Tryd.func31, Tryd.ntmps31
      go_wp2_with (go_at_call 27; refine hnum.out.mono ?_; intro e1 w1 hp; obtain ⟨A1, c1, rfl, hF, hR, h01, h11, hz1, hc1, hA1, hC1, hb1⟩ := hp.val; have hconv := octets_head (c := c1) hC1 hbig; obtain ⟨A', hcut, hA', hC', hc'⟩ := octets_cut (m := m) hC1 hc1 hA1 hbig; have hF := Lib.hid hF; have hN := Lib.hid (Rd.lay (e := 0) hb1 hc' hA' hC'); clear hR hA1 hC1 hb1 hA' hC' hp)
      go_ret
      exact ⟨rfl, hN.out, hF.out.setCell _ _ rfl⟩
  · have ht : rdText B e = (ByteArray.empty, B, (rdNum B e).2.2) := by rw [rdText, if_pos he]
    rw [ht]
    rw [rdNum_err he] at hnum
    generalize (rdNum B e).2.2 = x at he hnum
    generalize (rdNum B e).1 = n at hnum
    have hnum := Lib.hid hnum
    have he1 : (x == 0) = false := beq_eq_false_iff_ne.2 he
    have he2 : (x != 0) = true := bne_iff_ne.2 he
    clear ht hnn he
    go_enter Tryd.func31, Tryd.ntmps31
    go_wp2_with (go_at_call 27; refine hnum.out.mono ?_; intro e1 w1 hp; obtain ⟨A1, c1, rfl, hF, hR, h01, h11, hz1, hc1, hA1, hC1, hb1⟩ := hp.val; have hN := Lib.hid (Rd.lay hb1 hc HA.out (hF.int HC.out (fun ad e _ hk => absurd (HA.out ad e) (by omega)))); have hF := Lib.hid hF; clear hR hc1 hA1 hC1 hb1 hp)
    go_ret
    exact ⟨rfl, hN.out, hF.out.setCell _ _ rfl⟩
end Go.Proofs.YtoiaancehakiiaaDoor.Q
