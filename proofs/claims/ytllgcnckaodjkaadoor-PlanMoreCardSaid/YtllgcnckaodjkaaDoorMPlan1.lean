/- The walks of plan.waits and of what it calls: does a package wait for one that is left? -/
import Derived.Test.YtllgcnckaodjkaaDoorPureP
import Derived.Test.YtllgcnckaodjkaaDoorQ3
import Derived.Test.YtllgcnckaodjkaaDoorFrame
import Derived.Test.YtllgcnckaodjkaaDoorWMore
import Derived.Deep.RegionHeld3
import Derived.Deep.RegionWith
import Derived.Deep.QuietTactic
import Derived.BigQuiet
namespace Go.Proofs.YtllgcnckaodjkaaDoor.Q
open Go.RowKit Go.Proofs.YtllgcnckaodjkaaDoor.Plain Go.Proofs.YtllgcnckaodjkaaDoorW.PrintWords

abbrev PackL := List S34
def nmP (ps : PackL) (i : Nat) : ByteArray := (rd_T34 ps (i : Int)).f0
def ndP (ps : PackL) (i : Nat) : List ByteArray := (rd_T34 ps (i : Int)).f2
def ints (l : List Nat) : List Int := l.map fun (i : Nat) => (i : Int)
def waitB (ps : PackL) (nd : List ByteArray) (l : List Nat) : Bool := l.any fun j => memB nd (nmP ps j)

theorem name_cell {w : World} {A : Option Addr} {ps : PackL} (h : Kd.C k34 w A ps.length ps) (i : Nat) (hi : i < ps.length) : ∃ ad, A = some ad ∧ w.cell? (ad.add (i * 4)) = some (.string (nmP ps i)) := by
  obtain ⟨ad, _, _, _, _, e, hc, _⟩ := at_T34 h (i : Int) (by omega) (by omega)
  exact ⟨ad, e, by simpa [nmP] using hc⟩

set_option maxRecDepth 100000 in
theorem wclosure_calls (W : World) (Bp Bv : Nat) (A2 Ap : Option Addr) (c2 cp : Nat) (nd : List ByteArray) (ps : PackL) (i : Nat) (hi : i < ps.length) (hbp : W.cell? ⟨Bp, 2, none⟩ = some (.slice A2 nd.length c2)) (hbv : W.cell? ⟨Bv, 0, none⟩ = some (.slice Ap ps.length cp)) (hC2 : Kd.string.C W A2 nd.length nd) (hc2 : nd.length ≤ c2) (hCp : Kd.C k34 W Ap ps.length ps) :
    Calls Tryd.prog 38 #[.int .i64 i, .pointer (some ⟨Bp, 0, none⟩), .pointer (some ⟨Bv, 0, none⟩)] W fun e w' => e = .returned (.bool (memB nd (nmP ps i))) ∧ Below W.heap.size W w' := by
  obtain ⟨ad, rfl, hn⟩ := name_cell hCp i hi
  have hi0 : (0 : Int) ≤ (i : Int) := by omega
  have hi1 : (i : Int) < (ps.length : Int) := by omega
  have HS0 : Hid (W.drew.cell? ⟨Bp, 2, none⟩ = some (.slice A2 nd.length c2) ∧ W.drew.cell? ⟨Bv, 0, none⟩ = some (.slice (some ad) ps.length cp) ∧ W.drew.cell? (ad.add (i * 4)) = some (.string (nmP ps i))) := Lib.hid ⟨hbp, hbv, hn⟩
  have hcont : Hid (∀ W', Below W.heap.size W W' → Calls Tryd.prog 27 #[.slice A2 nd.length c2, .string (nmP ps i)] W' fun e w' => e = .returned (.bool (memB nd (nmP ps i))) ∧ Drawn0 W' w') := Lib.hid (fun W' hb => slices_Contains_string_string.calls (nd.length + 1) A2 c2 nd (nmP ps i) (memB nd (nmP ps i)) W' (Kd.C_below hC2 hb) hc2 (contains_ok (nd.length + 1) nd (nmP ps i) hC2.2.1 (by omega)))
  have HBd := Lib.hid (below_drew (Below.refl W.heap.size W))
  clear hbp hbv hn hC2 hc2 hCp hi
  generalize nmP ps i = nm at *
  go_enter Tryd.func38, Tryd.ntmps38
  go_wp2
  go_region_held3 (fun W => W.cell? ⟨Bp, 2, none⟩ = some (.slice A2 nd.length c2) ∧ W.cell? ⟨Bv, 0, none⟩ = some (.slice (some ad) ps.length cp) ∧ W.cell? (ad.add (i * 4)) = some (.string nm)) (first | exact HS1.out | exact HS0.out)
    (first
    | (go_at_call 27; refine (hcont.out _ HBd.out).mono ?_; rintro e1 w1 ⟨rfl, hd⟩; have HB1 := Lib.hid (below_then HBd.out HBd.out.size hd.below); have HS1 : Hid (w1.cell? ⟨Bp, 2, none⟩ = some (.slice A2 nd.length c2) ∧ w1.cell? ⟨Bv, 0, none⟩ = some (.slice (some ad) ps.length cp) ∧ w1.cell? (ad.add (i * 4)) = some (.string nm)) := Lib.hid (by obtain ⟨m, rfl⟩ := hd.out; exact HS0.out); clear hd))
  go_wp2
  go_ret
  exact ⟨rfl, HB1.out⟩

theorem ints_cell {w : World} {A : Option Addr} {l : List Nat} (h : (Kd.int .i64).C w A l.length (ints l)) (k : Nat) (hk : k < l.length) : ∃ ad, A = some ad ∧ w.cell? (ad.add k) = some (.int .i64 (l.getD k 0 : Nat)) := by
  have hr := Kd.reads_of_C (enc := Value.int .i64) (d := (0 : Int)) (h1 := fun _ => rfl) h
  obtain ⟨ad, e, hc⟩ := hr.2.2 (by omega)
  refine ⟨ad, e, ?_⟩
  rw [hc k hk]
  simp [ints, List.getD_eq_getElem?_getD, hk]

/-- slices.ContainsFunc over ints, with the closure of waits -/
def WaitC (w : World) (lb : Array Value) (p : Nat → Bool) (l : List Nat) : Prop := ∀ W, Below w.heap.size w W → ∀ i, i ∈ l → Calls Tryd.prog 38 (#[.int .i64 i] ++ lb) W fun e w' => e = .returned (.bool (p i)) ∧ Below W.heap.size W w'
def IdxPost (w : World) (r : Bool) (e : Ending) (w' : World) : Prop := ∃ n : Int, (decide (0 ≤ n) = r) ∧ e = .returned (.int .i64 n) ∧ Below w.heap.size w w'
set_option maxRecDepth 100000 in
theorem windex_calls (A : Option Addr) (c : Nat) (l : List Nat) (w : World) (P1 P2 : Value) (p : Nat → Bool) (hC : (Kd.int .i64).C w A l.length (ints l)) (hp : WaitC w #[P1, P2] p l) :
    Calls Tryd.prog 57 #[.slice A l.length c, .func (.func 38) #[] #[P1, P2]] w (IdxPost w (l.any p)) := by
  have HC := Lib.hid hC
  have HP := Lib.hid hp
  have hl : l.length ≤ 9223372036854775807 := hC.2.1
  obtain ⟨r, hr⟩ : ∃ r, l.any p = r := ⟨_, rfl⟩
  rw [hr]
  have HR := Lib.hid hr
  clear hC hp hr
  go_enter Tryd.func57, Tryd.ntmps57
  go_wp2
  go_loopw [8] (fun v wr => ∃ k : Nat, k ≤ l.length ∧ v = .int .i64 k ∧ Below w.heap.size w wr ∧ Hid (∀ i, i < k → p (l.getD i 0) = false)) (fun v _ => l.length - (RowKit.intOf v).toNat)
  case atStart => exact ⟨0, Nat.zero_le _, rfl, Below.refl _ _, Lib.hid (fun i hi => absurd hi (Nat.not_lt_zero _))⟩
  case round =>
    obtain ⟨k, hk, rfl, hbw, hno⟩ := hrel
    by_cases hlt : k < l.length
    · obtain ⟨ad, rfl, hc⟩ := ints_cell (Kd.C_below HC.out hbw) k hlt
      have hmem : l.getD k 0 ∈ l := by rw [List.getD_eq_getElem?_getD, List.getElem?_eq_getElem hlt]; exact List.getElem_mem hlt
      have hcl := Lib.hid (HP.out _ hbw _ hmem)
      have hxk : Hid (l.getD k 0 = l.getD k 0) := Lib.hid rfl
      cases hgk : p (l.getD k 0)
      · have HN2 : Hid (∀ i, i < k + 1 → p (l.getD i 0) = false) := Lib.hid (fun i hi => by
          by_cases e : i = k
          · subst e; exact hgk
          · exact hno.out i (by omega))
        rw [hgk] at hcl
        clear hgk hmem
        generalize l.getD k 0 = x at hc hcl
        go_wp2_with (go_at_call 38; refine hcl.out.mono ?_; rintro e w' ⟨rfl, hb⟩)
        go_roundw
        case rel => exact ⟨k + 1, by omega, by go_num, below_then hbw hbw.size hb, HN2⟩
        case measure => simp [RowKit.intOf]; omega
      · have HT : Hid (r = true) := Lib.hid (by rw [← HR.out, List.any_eq_true]; exact ⟨_, hmem, hgk⟩)
        rw [hgk] at hcl
        clear hgk hmem
        generalize l.getD k 0 = x at hc hcl
        go_wp2_with (go_at_call 38; refine hcl.out.mono ?_; rintro e w' ⟨rfl, hb⟩)
        go_ret
        exact ⟨k, by rw [HT.out]; simp, rfl, below_then hbw hbw.size hb⟩
    · obtain rfl : k = l.length := by omega
      have HT : Hid (r = false) := Lib.hid (by
        rw [← HR.out, List.any_eq_false]
        intro x hx
        obtain ⟨m, hm, rfl⟩ := List.mem_iff_getElem.1 hx
        have := hno.out m hm
        rw [List.getD_eq_getElem?_getD, List.getElem?_eq_getElem hm] at this
        simpa using this)
      go_wp2
      go_ret
      exact ⟨-1, by rw [HT.out]; rfl, rfl, hbw⟩
theorem wcontains_calls (A : Option Addr) (c : Nat) (l : List Nat) (w : World) (P1 P2 : Value) (p : Nat → Bool) (hC : (Kd.int .i64).C w A l.length (ints l)) (hp : WaitC w #[P1, P2] p l) :
    Calls Tryd.prog 37 #[.slice A l.length c, .func (.func 38) #[] #[P1, P2]] w fun e w' => e = .returned (.bool (l.any p)) ∧ Below w.heap.size w w' := by
  have hcon := Lib.hid (windex_calls A c l w P1 P2 p hC hp)
  generalize l.any p = r at *
  clear hC hp
  go_enter Tryd.func37, Tryd.ntmps37
  go_wp2_with (go_at_call 57; refine hcon.out.mono ?_; rintro e w' ⟨n, hn, rfl, hb⟩; have HN := Lib.hid hn; clear hn)
  go_ret
  exact ⟨by rw [← HN.out]; rfl, hb⟩

set_option maxRecDepth 100000 in
theorem waits_calls (W : World) (nm : ByteArray) (ver : Int) (A2 A3 Al Ap : Option Addr) (c2 n3 c3 cl cp : Nat) (nd : List ByteArray) (l : List Nat) (ps : PackL) (hC2 : Kd.string.C W A2 nd.length nd) (hc2 : nd.length ≤ c2) (hCp : Kd.C k34 W Ap ps.length ps) (hCl : (Kd.int .i64).C W Al l.length (ints l)) (hl : ∀ i ∈ l, i < ps.length) :
    Calls Tryd.prog 23 #[.agg #[.string nm, .int .i64 ver, .slice A2 nd.length c2, .slice A3 n3 c3], .slice Al l.length cl, .slice Ap ps.length cp] W fun e w' => e = .returned (.bool (waitB ps nd l)) ∧ Below W.heap.size W w' := by
  have hcon : Hid (∀ W1, Below W.heap.size W W1 → ∀ B1 B2 : Nat, W1.cell? ⟨B1, 2, none⟩ = some (.slice A2 nd.length c2) → W1.cell? ⟨B2, 0, none⟩ = some (.slice Ap ps.length cp) →
      Calls Tryd.prog 37 #[.slice Al l.length cl, .func (.func 38) #[] #[.pointer (some ⟨B1, 0, none⟩), .pointer (some ⟨B2, 0, none⟩)]] W1 fun e w' => e = .returned (.bool (waitB ps nd l)) ∧ Below W1.heap.size W1 w') :=
    Lib.hid (fun W1 hW B1 B2 h1 h2 => wcontains_calls Al cl l W1 _ _ (fun j => memB nd (nmP ps j)) (Kd.C_below hCl hW) (fun W2 hW2 i hi =>
      wclosure_calls W2 B1 B2 A2 Ap c2 cp nd ps i (hl i hi) (pw_cell_below hW2 h1) (pw_cell_below hW2 h2) (Kd.C_below (Kd.C_below hC2 hW) hW2) hc2 (Kd.C_below (Kd.C_below hCp hW) hW2)))
  clear hC2 hc2 hCp hCl hl
  go_enter Tryd.func23, Tryd.ntmps23
  go_wp2_with (go_at_call 37; refine (hcon.out _ (below_alloc (below_alloc (Below.refl _ W) _) _) W.heap.size (W.heap.size + 1) (by go_simp) (by go_simp)).mono ?_; rintro e w1 ⟨rfl, hb⟩; have HB := Lib.hid (below_then (below_alloc (below_alloc (Below.refl _ W) _) _) (by rw [World.size_alloc, World.size_alloc]; omega) hb); clear hb)
  go_ret
  exact ⟨rfl, HB.out⟩
end Go.Proofs.YtllgcnckaodjkaaDoor.Q
