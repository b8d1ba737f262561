/- The walks of octet.Open, Reader.Left, Err, End, by hand. -/
import Derived.Test.YtoiaancehakiiaaDoorMReader
import Derived.Test.YtoiaancehakiiaaDoorShelf
namespace Go.Proofs.YtoiaancehakiiaaDoor.Q
open Go.RowKit Go.Proofs.YtoiaancehakiiaaDoor.Plain Go.Proofs.YtoiaancehakiiaaDoorW.PrintWords

theorem left_calls (g : Nat) (B : ByteArray) (e : Int) (w : World) (h : Rd w g B e) :
    Calls Tryd.prog 11 #[.pointer (some ⟨g, 0, none⟩)] w fun x w' => x = .returned (.int .i64 B.size) ∧ w = w' := by
  obtain ⟨A, c, hb, hc, hA, hC⟩ := h
  have h0 : w.cell? ⟨g, 0, none⟩ = some (.slice A B.size c) := (blk_cell hb 0).trans rfl
  have hs := hC.2.1
  clear hb hc hA hC
  go_enter Tryd.func11, Tryd.ntmps11
  go_wp2
  go_ret
  exact ⟨rfl, rfl⟩
theorem err_calls (g : Nat) (B : ByteArray) (e : Int) (w : World) (h : Rd w g B e) :
    Calls Tryd.prog 12 #[.pointer (some ⟨g, 0, none⟩)] w fun x w' => x = .returned (.int .i64 e) ∧ w = w' := by
  obtain ⟨A, c, hb, hc, hA, hC⟩ := h
  have h0 : w.cell? ⟨g, 0, none⟩ = some (.slice A B.size c) := (blk_cell hb 0).trans rfl
  have h1 : w.cell? ⟨g, 1, none⟩ = some (.int .i64 e) := (blk_cell hb 1).trans rfl
  clear hb hc hA hC
  go_enter Tryd.func12, Tryd.ntmps12
  go_wp2
  go_ret
  exact ⟨rfl, rfl⟩
theorem end_calls (g : Nat) (B : ByteArray) (e : Int) (w : World) (h : Rd w g B e) :
    Calls Tryd.prog 28 #[.pointer (some ⟨g, 0, none⟩)] w fun x w' => x = .returned (.int .i64 (if e = 0 ∧ 0 < B.size then 11 else e)) ∧ w = w' := by
  obtain ⟨A, c, hb, hc, hA, hC⟩ := h
  have h0 : w.cell? ⟨g, 0, none⟩ = some (.slice A B.size c) := (blk_cell hb 0).trans rfl
  have h1 : w.cell? ⟨g, 1, none⟩ = some (.int .i64 e) := (blk_cell hb 1).trans rfl
  have hs := hC.2.1
  clear hb hc hA hC
  by_cases he : e = 0
  · subst he
    by_cases hb : 0 < B.size
    · rw [if_pos ⟨rfl, hb⟩]
      have hbb : decide (0 < B.size) = true := decide_eq_true hb
      go_enter Tryd.func28, Tryd.ntmps28
      go_wp2
      go_ret
      exact ⟨rfl, rfl⟩
    · rw [if_neg (fun h => hb h.2)]
      have hbb : decide (0 < B.size) = false := decide_eq_false hb
      go_enter Tryd.func28, Tryd.ntmps28
      go_wp2
      go_ret
      exact ⟨rfl, rfl⟩
  · rw [if_neg (fun h => he h.1)]
    have he1 : (e == 0) = false := beq_eq_false_iff_ne.2 he
    have he2 : (e != 0) = true := bne_iff_ne.2 he
    clear he
    go_enter Tryd.func28, Tryd.ntmps28
    go_wp2
    go_ret
    exact ⟨rfl, rfl⟩

def ClonePost (w : World) (xs : List Int) (e : Ending) (w' : World) : Prop :=
  ∃ A c, e = .returned (.slice A xs.length c) ∧ xs.length ≤ c ∧ (Kd.int .u8).C w' A xs.length xs ∧ (∀ ad, A = some ad → w.heap.size ≤ ad.block ∧ ad.block < w'.heap.size) ∧ Below w.heap.size w w'
theorem clone_calls (A : Option Addr) (c : Nat) (xs : List Int) (w : World) (hC : (Kd.int .u8).C w A xs.length xs) (hbig : xs.length ≤ 140737488355328) :
    Calls Tryd.prog 30 #[.slice A xs.length c] w (ClonePost w xs) := by
  cases A with
  | none =>
    have h0 : xs.length = 0 := by
      by_cases h : 0 < xs.length
      · obtain ⟨ad, e, _⟩ := hC.2.2 h
        cases e
      · omega
    refine (Tryd.bytes_Clone_nil xs.length c w).mono ?_
    rintro e w' ⟨rfl, rfl⟩
    have hx : xs = [] := List.length_eq_zero_iff.1 h0
    subst hx
    exact ⟨none, 0, rfl, Nat.le_refl _, Kd.C_nil _ _, (fun _ h => nomatch h), Below.refl _ _⟩
  | some a =>
    have hr := Kd.reads_of_C (enc := Value.int .u8) (d := (0 : Int)) (h1 := fun _ => rfl) hC
    refine (Tryd.bytes_Clone_at a xs.length c xs w rfl hbig (fun i hi => by
      obtain ⟨ad, e, hcell⟩ := hr.2.2 (by omega)
      cases e
      exact hcell i hi)).mono ?_
    rintro e w' ⟨v', rfl, hown, hne, hb⟩
    have hR : Kd.R (Kd.int .u8) 5 w' w.heap.size (fun _ => True) v' xs := Kd.R_of_own (by exact hown) (fun _ _ => trivial)
    obtain ⟨A', c', rfl, hc', hC'⟩ := Kd.R_reads hR
    exact ⟨A', c', rfl, hc', hC', fun ad ha => ⟨Kd.R_base hR ad.block (by subst ha; rfl), Kd.R_lt hR ad.block (by subst ha; rfl)⟩, hb⟩

def OpenPost (w : World) (B : ByteArray) (e : Ending) (w' : World) : Prop := ∃ g, e = .returned (.pointer (some ⟨g, 0, none⟩)) ∧ Rd w' g B 0 ∧ w.heap.size ≤ g ∧ Below w.heap.size w w'
theorem open_calls (A : Option Addr) (c : Nat) (B : ByteArray) (w : World) (hC : (Kd.int .u8).C w A B.size (bytesOf B)) (hbig : B.size ≤ 140737488355328) :
    Calls Tryd.prog 7 #[.slice A B.size c] w (OpenPost w B) := by
  have hl := bytesOf_length B
  have hcl := clone_calls A c (bytesOf B) w (by rw [hl]; exact hC) (by omega)
  rw [hl] at hcl
  have hcl := Lib.hid hcl
  have HL := Lib.hid hl
  clear hC hl
  go_enter Tryd.func7, Tryd.ntmps7
  go_wp2_with (go_at_call 30; refine hcl.out.mono ?_; rintro e w1 ⟨A1, c1, rfl, hc1, hC1, hA1, hb1⟩; rw [HL.out] at hc1 hC1 ⊢; have hC1 := Lib.hid hC1; have hA1 := Lib.hid hA1; have hb1 := Lib.hid hb1)
  go_ret
  refine ⟨w1.heap.size, rfl, ⟨A1, c1, heap_alloc_new w1 _, hc1, fun ad ha => (hA1.out ad ha).2, ?_⟩, hb1.out.size, below_alloc hb1.out _⟩
  exact Kd.C_alloc hC1.out _
end Go.Proofs.YtoiaancehakiiaaDoor.Q
