/- The walk of plan.Closed: three closures, one in another. -/
import Derived.Test.YtllgcnckaodjkaaDoorMOrd
import Derived.Test.YtllgcnckaodjkaaDoorQ4
set_option linter.unusedVariables false
namespace Go.Proofs.YtllgcnckaodjkaaDoor.Q
open Go.RowKit Go.Proofs.YtllgcnckaodjkaaDoor.Plain Go.Proofs.YtllgcnckaodjkaaDoorW.PrintWords

abbrev LoadL := List S42
def hasN (all : LoadL) (n : ByteArray) : Bool := all.any fun k => decide (k.f0 = n)
def lackN (all : LoadL) (l : S42) : Bool := l.f2.any fun n => !hasN all n
def closedP (all : LoadL) : Bool := !all.any (lackN all)

theorem rd42_mem {l : LoadL} {k : Nat} (h : k < l.length) : rd_T42 l (k : Int) ∈ l := by
  have : rd_T42 l (k : Int) = l[k] := by simp [rd_T42, List.getD_eq_getElem?_getD, h]
  rw [this]; exact List.getElem_mem h
theorem any_no42 {l : LoadL} {p : S42 → Bool} (h : ∀ i, i < l.length → p (rd_T42 l (i : Int)) = false) : l.any p = false := by
  rw [List.any_eq_false]
  intro x hx
  obtain ⟨m, hm, rfl⟩ := List.mem_iff_getElem.1 hx
  have := h m hm
  rw [show rd_T42 l (m : Int) = l[m] by simp [rd_T42, List.getD_eq_getElem?_getD, hm]] at this
  simp [this]
theorem any_noS {l : List ByteArray} {p : ByteArray → Bool} (h : ∀ i, i < l.length → p (l.getD i ByteArray.empty) = false) : l.any p = false := by
  rw [List.any_eq_false]
  intro x hx
  obtain ⟨m, hm, rfl⟩ := List.mem_iff_getElem.1 hx
  have := h m hm
  rw [show l.getD m ByteArray.empty = l[m] by simp [List.getD_eq_getElem?_getD, hm]] at this
  simp [this]

/-- the innermost closure: is this the one of that name? -/
theorem c111_calls (W : World) (B : Nat) (n nm : ByteArray) (ver : Int) (v2 v3 : Value) (hb : W.cell? ⟨B, 0, none⟩ = some (.string n)) :
    Calls Tryd.prog 32 #[.agg #[.string nm, .int .i64 ver, v2, v3], .pointer (some ⟨B, 0, none⟩)] W fun e w' => e = .returned (.bool (decide (nm = n))) ∧ Below W.heap.size W w' := by
  have he : decide (nm = n) = (nm.toList == n.toList) := by rw [Bool.eq_iff_iff, decide_eq_true_eq, beq_iff_eq]; exact tl_inj.symm
  rw [he]
  have hb1 := pw_cell_below (below_alloc (Below.refl _ W) (.cells #[.string nm, .int .i64 ver, v2, v3] 42 (0, 0))) hb
  have HB := Lib.hid (below_alloc (Below.refl _ W) (.cells #[.string nm, .int .i64 ver, v2, v3] 42 (0, 0)))
  clear hb
  go_enter Tryd.func32, Tryd.ntmps32
  go_wp2
  go_ret
  exact ⟨rfl, HB.out⟩

/-- slices.IndexFunc and ContainsFunc over []Loaded with monticule/plan.Closed$1$1$1 -/
def CN111 (w : World) (P1 : Value) (p : S42 → Bool) (l : LoadL) : Prop := ∀ W, Below w.heap.size w W → ∀ i, i < l.length → ∀ A2 c2 A3 c3, (rd_T42 l (i : Int)).f2.length ≤ c2 → Kd.string.C W A2 (rd_T42 l (i : Int)).f2.length (rd_T42 l (i : Int)).f2 → Calls Tryd.prog 32 #[.agg #[.string (rd_T42 l (i : Int)).f0, .int .i64 (rd_T42 l (i : Int)).f1, .slice A2 (rd_T42 l (i : Int)).f2.length c2, .slice A3 (rd_T42 l (i : Int)).f3.length c3], P1] W fun e w' => e = .returned (.bool (p (rd_T42 l (i : Int)))) ∧ Below W.heap.size W w'
set_option maxRecDepth 100000 in
theorem indexN111_calls (A : Option Addr) (c : Nat) (l : LoadL) (w : World) (P1 : Value) (p : S42 → Bool) (hC : Kd.C k42 w A l.length l) (hp : CN111 w P1 p l) :
    Calls Tryd.prog 41 #[.slice A l.length c, .func (.func 32) #[] #[P1]] w (IdxPost w (l.any p)) := by
  have HC := Lib.hid hC
  have HP := Lib.hid hp
  have hl : l.length ≤ 9223372036854775807 := hC.2.1
  obtain ⟨r, hr⟩ : ∃ r, l.any p = r := ⟨_, rfl⟩
  rw [hr]
  have HR := Lib.hid hr
  clear hC hp hr
  go_enter Tryd.func41, Tryd.ntmps41
  go_wp2
  go_loopw [8] (fun v wr => ∃ k : Nat, k ≤ l.length ∧ v = .int .i64 k ∧ Below w.heap.size w wr ∧ Hid (∀ i : Nat, i < k → p (rd_T42 l (i : Int)) = false)) (fun v _ => l.length - (RowKit.intOf v).toNat)
  case atStart => exact ⟨0, Nat.zero_le _, rfl, Below.refl _ _, Lib.hid (fun i hi => absurd hi (Nat.not_lt_zero _))⟩
  case round =>
    obtain ⟨k, hk, rfl, hbw, hno⟩ := hrel
    by_cases hlt : k < l.length
    · obtain ⟨ad, A2, c2, A3, c3, rfl, ha0, ha1, ha2, ha3, hl2, hC2, hl3, hC3⟩ := at_T42 (Kd.C_below HC.out hbw) (k : Int) (by omega) (by omega)
      simp only [Int.toNat_natCast] at ha0 ha1 ha2 ha3
      have hcl := Lib.hid (HP.out _ hbw k hlt A2 c2 A3 c3 hl2 hC2)
      have hmem : Hid (rd_T42 l (k : Int) ∈ l) := Lib.hid (rd42_mem hlt)
      clear hl2 hC2 hl3 hC3
      have hk0 : (0 : Int) ≤ (k : Int) := by omega
      have hk1 : (k : Int) < (l.length : Int) := by omega
      have HNK : Hid (∀ b, p (rd_T42 l (k : Int)) = b → b = false → ∀ i : Nat, i < k + 1 → p (rd_T42 l (i : Int)) = false) := Lib.hid (fun b hb h0 i hi => by
        by_cases e : i = k
        · subst e; rw [hb, h0]
        · exact hno.out i (by omega))
      have HTK : Hid (∀ b, p (rd_T42 l (k : Int)) = b → b = true → r = true) := Lib.hid (fun b hb h1 => by rw [← HR.out, List.any_eq_true]; exact ⟨_, hmem.out, by rw [hb, h1]⟩)
      obtain ⟨b, hb⟩ : ∃ b, p (rd_T42 l (k : Int)) = b := ⟨_, rfl⟩
      have HB := Lib.hid hb
      rw [hb] at hcl
      clear hb
      obtain ⟨x, hx⟩ : ∃ x, rd_T42 l (k : Int) = x := ⟨_, rfl⟩
      rw [hx] at hcl ha0 ha1 ha2 ha3 HNK HTK HB
      clear hx hmem
      obtain ⟨n, ver, nd, f3⟩ := x
      simp only at hcl ha0 ha1 ha2 ha3
      generalize f3.length = n3 at *
      generalize nd.length = n2 at *
      cases b
      · have HN2 := Lib.hid (HNK.out false HB.out rfl)
        go_wp2_with (go_at_call 32; refine hcl.out.mono ?_; rintro e5 w5 ⟨rfl, hb5⟩; have HB5 := Lib.hid (below_then hbw hbw.size hb5); clear hb5)
        go_roundw
        case rel => exact ⟨k + 1, by omega, by go_num, HB5.out, HN2⟩
        case measure => simp [RowKit.intOf]; omega
      · have HT : Hid (r = true) := Lib.hid (HTK.out true HB.out rfl)
        go_wp2_with (go_at_call 32; refine hcl.out.mono ?_; rintro e5 w5 ⟨rfl, hb5⟩; have HB5 := Lib.hid (below_then hbw hbw.size hb5); clear hb5)
        go_ret
        exact ⟨k, by rw [HT.out]; simp, rfl, HB5.out⟩
    · obtain rfl : k = l.length := by omega
      have HT : Hid (r = false) := Lib.hid (by rw [← HR.out]; exact any_no42 hno.out)
      go_wp2
      go_ret
      exact ⟨-1, by rw [HT.out]; rfl, rfl, hbw⟩
theorem hasN111_calls (A : Option Addr) (c : Nat) (l : LoadL) (w : World) (P1 : Value) (p : S42 → Bool) (hC : Kd.C k42 w A l.length l) (hp : CN111 w P1 p l) :
    Calls Tryd.prog 28 #[.slice A l.length c, .func (.func 32) #[] #[P1]] w fun e w' => e = .returned (.bool (l.any p)) ∧ Below w.heap.size w w' := by
  have hcon := Lib.hid (indexN111_calls A c l w P1 p hC hp)
  generalize l.any p = r at *
  clear hC hp
  go_enter Tryd.func28, Tryd.ntmps28
  go_wp2_with (go_at_call 41; refine hcon.out.mono ?_; rintro e w' ⟨n, hn, rfl, hb⟩; have HN := Lib.hid hn; clear hn)
  go_ret
  exact ⟨by rw [← HN.out]; rfl, hb⟩

/-- slices.IndexFunc and ContainsFunc over []Loaded with monticule/plan.Closed$1 -/
def CN1 (w : World) (P1 : Value) (p : S42 → Bool) (l : LoadL) : Prop := ∀ W, Below w.heap.size w W → ∀ i, i < l.length → ∀ A2 c2 A3 c3, (rd_T42 l (i : Int)).f2.length ≤ c2 → Kd.string.C W A2 (rd_T42 l (i : Int)).f2.length (rd_T42 l (i : Int)).f2 → Calls Tryd.prog 29 #[.agg #[.string (rd_T42 l (i : Int)).f0, .int .i64 (rd_T42 l (i : Int)).f1, .slice A2 (rd_T42 l (i : Int)).f2.length c2, .slice A3 (rd_T42 l (i : Int)).f3.length c3], P1] W fun e w' => e = .returned (.bool (p (rd_T42 l (i : Int)))) ∧ Below W.heap.size W w'
set_option maxRecDepth 100000 in
theorem indexN1_calls (A : Option Addr) (c : Nat) (l : LoadL) (w : World) (P1 : Value) (p : S42 → Bool) (hC : Kd.C k42 w A l.length l) (hp : CN1 w P1 p l) :
    Calls Tryd.prog 41 #[.slice A l.length c, .func (.func 29) #[] #[P1]] w (IdxPost w (l.any p)) := by
  have HC := Lib.hid hC
  have HP := Lib.hid hp
  have hl : l.length ≤ 9223372036854775807 := hC.2.1
  obtain ⟨r, hr⟩ : ∃ r, l.any p = r := ⟨_, rfl⟩
  rw [hr]
  have HR := Lib.hid hr
  clear hC hp hr
  go_enter Tryd.func41, Tryd.ntmps41
  go_wp2
  go_loopw [8] (fun v wr => ∃ k : Nat, k ≤ l.length ∧ v = .int .i64 k ∧ Below w.heap.size w wr ∧ Hid (∀ i : Nat, i < k → p (rd_T42 l (i : Int)) = false)) (fun v _ => l.length - (RowKit.intOf v).toNat)
  case atStart => exact ⟨0, Nat.zero_le _, rfl, Below.refl _ _, Lib.hid (fun i hi => absurd hi (Nat.not_lt_zero _))⟩
  case round =>
    obtain ⟨k, hk, rfl, hbw, hno⟩ := hrel
    by_cases hlt : k < l.length
    · obtain ⟨ad, A2, c2, A3, c3, rfl, ha0, ha1, ha2, ha3, hl2, hC2, hl3, hC3⟩ := at_T42 (Kd.C_below HC.out hbw) (k : Int) (by omega) (by omega)
      simp only [Int.toNat_natCast] at ha0 ha1 ha2 ha3
      have hcl := Lib.hid (HP.out _ hbw k hlt A2 c2 A3 c3 hl2 hC2)
      have hmem : Hid (rd_T42 l (k : Int) ∈ l) := Lib.hid (rd42_mem hlt)
      clear hl2 hC2 hl3 hC3
      have hk0 : (0 : Int) ≤ (k : Int) := by omega
      have hk1 : (k : Int) < (l.length : Int) := by omega
      have HNK : Hid (∀ b, p (rd_T42 l (k : Int)) = b → b = false → ∀ i : Nat, i < k + 1 → p (rd_T42 l (i : Int)) = false) := Lib.hid (fun b hb h0 i hi => by
        by_cases e : i = k
        · subst e; rw [hb, h0]
        · exact hno.out i (by omega))
      have HTK : Hid (∀ b, p (rd_T42 l (k : Int)) = b → b = true → r = true) := Lib.hid (fun b hb h1 => by rw [← HR.out, List.any_eq_true]; exact ⟨_, hmem.out, by rw [hb, h1]⟩)
      obtain ⟨b, hb⟩ : ∃ b, p (rd_T42 l (k : Int)) = b := ⟨_, rfl⟩
      have HB := Lib.hid hb
      rw [hb] at hcl
      clear hb
      obtain ⟨x, hx⟩ : ∃ x, rd_T42 l (k : Int) = x := ⟨_, rfl⟩
      rw [hx] at hcl ha0 ha1 ha2 ha3 HNK HTK HB
      clear hx hmem
      obtain ⟨n, ver, nd, f3⟩ := x
      simp only at hcl ha0 ha1 ha2 ha3
      generalize f3.length = n3 at *
      generalize nd.length = n2 at *
      cases b
      · have HN2 := Lib.hid (HNK.out false HB.out rfl)
        go_wp2_with (go_at_call 29; refine hcl.out.mono ?_; rintro e5 w5 ⟨rfl, hb5⟩; have HB5 := Lib.hid (below_then hbw hbw.size hb5); clear hb5)
        go_roundw
        case rel => exact ⟨k + 1, by omega, by go_num, HB5.out, HN2⟩
        case measure => simp [RowKit.intOf]; omega
      · have HT : Hid (r = true) := Lib.hid (HTK.out true HB.out rfl)
        go_wp2_with (go_at_call 29; refine hcl.out.mono ?_; rintro e5 w5 ⟨rfl, hb5⟩; have HB5 := Lib.hid (below_then hbw hbw.size hb5); clear hb5)
        go_ret
        exact ⟨k, by rw [HT.out]; simp, rfl, HB5.out⟩
    · obtain rfl : k = l.length := by omega
      have HT : Hid (r = false) := Lib.hid (by rw [← HR.out]; exact any_no42 hno.out)
      go_wp2
      go_ret
      exact ⟨-1, by rw [HT.out]; rfl, rfl, hbw⟩
theorem hasN1_calls (A : Option Addr) (c : Nat) (l : LoadL) (w : World) (P1 : Value) (p : S42 → Bool) (hC : Kd.C k42 w A l.length l) (hp : CN1 w P1 p l) :
    Calls Tryd.prog 28 #[.slice A l.length c, .func (.func 29) #[] #[P1]] w fun e w' => e = .returned (.bool (l.any p)) ∧ Below w.heap.size w w' := by
  have hcon := Lib.hid (indexN1_calls A c l w P1 p hC hp)
  generalize l.any p = r at *
  clear hC hp
  go_enter Tryd.func28, Tryd.ntmps28
  go_wp2_with (go_at_call 41; refine hcon.out.mono ?_; rintro e w' ⟨n, hn, rfl, hb⟩; have HN := Lib.hid hn; clear hn)
  go_ret
  exact ⟨by rw [← HN.out]; rfl, hb⟩

/-- the middle closure: is a name not there? -/
theorem c11_calls (W : World) (B : Nat) (A : Option Addr) (c : Nat) (all : LoadL) (n : ByteArray) (hb : W.cell? ⟨B, 0, none⟩ = some (.slice A all.length c)) (hC : Kd.C k42 W A all.length all) :
    Calls Tryd.prog 31 #[.string n, .pointer (some ⟨B, 0, none⟩)] W fun e w' => e = .returned (.bool (!hasN all n)) ∧ Below W.heap.size W w' := by
  have hin : Hid (∀ W1, Below W.heap.size W W1 → ∀ B1 : Nat, W1.cell? ⟨B1, 0, none⟩ = some (.string n) → Calls Tryd.prog 28 #[.slice A all.length c, .func (.func 32) #[] #[.pointer (some ⟨B1, 0, none⟩)]] W1 fun e w' => e = .returned (.bool (hasN all n)) ∧ Below W1.heap.size W1 w') :=
    Lib.hid (fun W1 hW B1 h1 => hasN111_calls A c all W1 _ (fun k => decide (k.f0 = n)) (Kd.C_below hC hW) (fun W2 hW2 i hi A2 c2 A3 c3 _ _ => c111_calls W2 B1 n _ _ _ _ (pw_cell_below hW2 h1)))
  have HBc : Hid (∀ W1, Below W.heap.size W W1 → W1.cell? ⟨B, 0, none⟩ = some (.slice A all.length c)) := Lib.hid (fun W1 hW => pw_cell_below hW hb)
  clear hb hC
  go_enter Tryd.func31, Tryd.ntmps31
  have hc1 := HBc.out _ (below_alloc (Below.refl _ W) (.cells #[.string n] 9 (0, 0)))
  clear HBc
  generalize hasN all n = b at *
  go_wp2_with (go_at_call 28; refine (hin.out _ (below_alloc (Below.refl _ W) _) W.heap.size (by go_simp)).mono ?_; rintro e w1 ⟨rfl, hb⟩; have HB := Lib.hid (below_then (below_alloc (Below.refl _ W) _) (by rw [World.size_alloc]; omega) hb); clear hb)
  go_ret
  exact ⟨rfl, HB.out⟩

/-- slices.IndexFunc and ContainsFunc over []string with Closed$1$1 -/
def CS (w : World) (P1 : Value) (p : ByteArray → Bool) (l : List ByteArray) : Prop := ∀ W, Below w.heap.size w W → ∀ n, Calls Tryd.prog 31 #[.string n, P1] W fun e w' => e = .returned (.bool (p n)) ∧ Below W.heap.size W w'
theorem strs_cell {w : World} {A : Option Addr} {l : List ByteArray} (h : Kd.string.C w A l.length l) (k : Nat) (hk : k < l.length) : ∃ ad, A = some ad ∧ w.cell? (ad.add k) = some (.string (l.getD k ByteArray.empty)) := by
  have hr := Kd.reads_of_C (enc := Value.string) (d := ByteArray.empty) (h1 := fun _ => rfl) h
  obtain ⟨ad, e, hc⟩ := hr.2.2 (by omega)
  exact ⟨ad, e, hc k hk⟩
set_option maxRecDepth 100000 in
theorem indexS_calls (A : Option Addr) (c : Nat) (l : List ByteArray) (w : World) (P1 : Value) (p : ByteArray → Bool) (hC : Kd.string.C w A l.length l) (hp : CS w P1 p l) :
    Calls Tryd.prog 42 #[.slice A l.length c, .func (.func 31) #[] #[P1]] w (IdxPost w (l.any p)) := by
  have HC := Lib.hid hC
  have HP := Lib.hid hp
  have hl : l.length ≤ 9223372036854775807 := hC.2.1
  obtain ⟨r, hr⟩ : ∃ r, l.any p = r := ⟨_, rfl⟩
  rw [hr]
  have HR := Lib.hid hr
  clear hC hp hr
  go_enter Tryd.func42, Tryd.ntmps42
  go_wp2
  go_loopw [8] (fun v wr => ∃ k : Nat, k ≤ l.length ∧ v = .int .i64 k ∧ Below w.heap.size w wr ∧ Hid (∀ i, i < k → p (l.getD i ByteArray.empty) = false)) (fun v _ => l.length - (RowKit.intOf v).toNat)
  case atStart => exact ⟨0, Nat.zero_le _, rfl, Below.refl _ _, Lib.hid (fun i hi => absurd hi (Nat.not_lt_zero _))⟩
  case round =>
    obtain ⟨k, hk, rfl, hbw, hno⟩ := hrel
    by_cases hlt : k < l.length
    · obtain ⟨ad, rfl, hc⟩ := strs_cell (Kd.C_below HC.out hbw) k hlt
      have hmem : l.getD k ByteArray.empty ∈ l := by rw [List.getD_eq_getElem?_getD, List.getElem?_eq_getElem hlt]; exact List.getElem_mem hlt
      have hcl := Lib.hid (HP.out _ hbw (l.getD k ByteArray.empty))
      cases hgk : p (l.getD k ByteArray.empty)
      · have HN2 : Hid (∀ i, i < k + 1 → p (l.getD i ByteArray.empty) = false) := Lib.hid (fun i hi => by
          by_cases e : i = k
          · subst e; exact hgk
          · exact hno.out i (by omega))
        rw [hgk] at hcl
        clear hgk hmem
        generalize l.getD k ByteArray.empty = x at hc hcl
        go_wp2_with (go_at_call 31; refine hcl.out.mono ?_; rintro e w' ⟨rfl, hb⟩)
        go_roundw
        case rel => exact ⟨k + 1, by omega, by go_num, below_then hbw hbw.size hb, HN2⟩
        case measure => simp [RowKit.intOf]; omega
      · have HT : Hid (r = true) := Lib.hid (by rw [← HR.out, List.any_eq_true]; exact ⟨_, hmem, hgk⟩)
        rw [hgk] at hcl
        clear hgk hmem
        generalize l.getD k ByteArray.empty = x at hc hcl
        go_wp2_with (go_at_call 31; refine hcl.out.mono ?_; rintro e w' ⟨rfl, hb⟩)
        go_ret
        exact ⟨k, by rw [HT.out]; simp, rfl, below_then hbw hbw.size hb⟩
    · obtain rfl : k = l.length := by omega
      have HT : Hid (r = false) := Lib.hid (by rw [← HR.out]; exact any_noS hno.out)
      go_wp2
      go_ret
      exact ⟨-1, by rw [HT.out]; rfl, rfl, hbw⟩
theorem hasS_calls (A : Option Addr) (c : Nat) (l : List ByteArray) (w : World) (P1 : Value) (p : ByteArray → Bool) (hC : Kd.string.C w A l.length l) (hp : CS w P1 p l) :
    Calls Tryd.prog 30 #[.slice A l.length c, .func (.func 31) #[] #[P1]] w fun e w' => e = .returned (.bool (l.any p)) ∧ Below w.heap.size w w' := by
  have hcon := Lib.hid (indexS_calls A c l w P1 p hC hp)
  generalize l.any p = r at *
  clear hC hp
  go_enter Tryd.func30, Tryd.ntmps30
  go_wp2_with (go_at_call 42; refine hcon.out.mono ?_; rintro e w' ⟨n, hn, rfl, hb⟩; have HN := Lib.hid hn; clear hn)
  go_ret
  exact ⟨by rw [← HN.out]; rfl, hb⟩

/-- the outer closure: does one lack a need? -/
theorem c1_calls (W : World) (B : Nat) (A A2 : Option Addr) (c c2 : Nat) (all : LoadL) (nm : ByteArray) (ver : Int) (nd : List ByteArray) (v3 : Value) (hb : W.cell? ⟨B, 0, none⟩ = some (.slice A all.length c)) (hC : Kd.C k42 W A all.length all) (hC2 : Kd.string.C W A2 nd.length nd) :
    Calls Tryd.prog 29 #[.agg #[.string nm, .int .i64 ver, .slice A2 nd.length c2, v3], .pointer (some ⟨B, 0, none⟩)] W fun e w' => e = .returned (.bool (nd.any fun n => !hasN all n)) ∧ Below W.heap.size W w' := by
  have hin := Lib.hid (fun (W0 : World) (h0 : Below W.heap.size W W0) => hasS_calls A2 c2 nd W0 (.pointer (some ⟨B, 0, none⟩)) (fun n => !hasN all n) (Kd.C_below hC2 h0) (fun W1 hW n => c11_calls W1 B A c all n (pw_cell_below hW (pw_cell_below h0 hb)) (Kd.C_below (Kd.C_below hC h0) hW)))
  clear hb hC hC2
  generalize (nd.any fun n => !hasN all n) = b at *
  generalize nd.length = n2 at *
  go_enter Tryd.func29, Tryd.ntmps29
  go_wp2_with (go_at_call 30; refine (hin.out _ (below_alloc (Below.refl _ W) _)).mono ?_; rintro e w1 ⟨rfl, hb⟩; have HB := Lib.hid (below_then (below_alloc (Below.refl _ W) _) (by rw [World.size_alloc]; omega) hb); clear hb)
  go_ret
  exact ⟨rfl, HB.out⟩

def plan_Closed.f (l0 : LoadL) : Option Bool := some (closedP l0)
theorem plan_Closed.calls (A0 : Option Addr) (c0 : Nat) (l0 : LoadL) (r : Bool) (w : World) (hr0 : Kd.C k42 w A0 l0.length l0) (hc0 : l0.length ≤ c0) (h : plan_Closed.f l0 = some r) :
    Calls Tryd.prog 17 #[.slice A0 l0.length c0] w fun e w' => e = .returned (.bool r) ∧ Below w.heap.size w w' := by
  obtain rfl := Option.some.inj h
  have hin : Hid (∀ W1, Below w.heap.size w W1 → ∀ B1 : Nat, W1.cell? ⟨B1, 0, none⟩ = some (.slice A0 l0.length c0) → Calls Tryd.prog 28 #[.slice A0 l0.length c0, .func (.func 29) #[] #[.pointer (some ⟨B1, 0, none⟩)]] W1 fun e w' => e = .returned (.bool (l0.any (lackN l0))) ∧ Below W1.heap.size W1 w') :=
    Lib.hid (fun W1 hW B1 h1 => hasN1_calls A0 c0 l0 W1 _ (lackN l0) (Kd.C_below hr0 hW) (fun W2 hW2 i hi A2 c2 A3 c3 _ hC2 => c1_calls W2 B1 A0 A2 c0 c2 l0 _ _ _ _ (pw_cell_below hW2 h1) (Kd.C_below (Kd.C_below hr0 hW) hW2) hC2))
  clear hr0 hc0 h
  unfold closedP
  generalize l0.any (lackN l0) = b at *
  go_enter Tryd.func17, Tryd.ntmps17
  go_wp2_with (go_at_call 28; refine (hin.out _ (below_alloc (Below.refl _ w) _) w.heap.size (by go_simp)).mono ?_; rintro e w1 ⟨rfl, hb⟩; have HB := Lib.hid (below_then (below_alloc (Below.refl _ w) _) (by rw [World.size_alloc]; omega) hb); clear hb)
  go_ret
  exact ⟨rfl, HB.out⟩
end Go.Proofs.YtllgcnckaodjkaaDoor.Q
