/- What a call leaves as it was: every old block outside a set S; lemmas on such frames. No program in sight. -/
import Derived.Test.YtllgcnckaodjkaaDoorWWords
namespace Go.Proofs.YtllgcnckaodjkaaDoor.Q
open Go.RowKit Go.Proofs.YtllgcnckaodjkaaDoorW.PrintWords

structure Fr (S : Nat → Prop) (w w' : World) : Prop where
  os : w'.os = w.os
  tape : w'.tape = w.tape
  output : w'.output = w.output
  size : w.heap.size ≤ w'.heap.size
  block : ∀ i, i < w.heap.size → ¬ S i → w'.heap[i]? = w.heap[i]?

variable {S S2 : Nat → Prop} {w w1 w2 w' : World}
theorem Fr.refl (S : Nat → Prop) (w : World) : Fr S w w := ⟨rfl, rfl, rfl, Nat.le_refl _, fun _ _ _ => rfl⟩
theorem Fr.trans (h : Fr S w w1) (h2 : Fr S2 w1 w2) (hs : ∀ k, S2 k → S k ∨ w.heap.size ≤ k) : Fr S w w2 :=
  ⟨h2.os.trans h.os, h2.tape.trans h.tape, h2.output.trans h.output, Nat.le_trans h.size h2.size, fun i hi hn =>
    (h2.block i (Nat.lt_of_lt_of_le hi h.size) (fun h2i => (hs i h2i).elim hn (fun hle => absurd hi (Nat.not_lt.2 hle)))).trans (h.block i hi hn)⟩
theorem Fr.step (h : Fr S w w1) (h2 : Fr S w1 w2) : Fr S w w2 := h.trans h2 (fun _ hk => .inl hk)
theorem Fr.of_below (S : Nat → Prop) (h : Below w.heap.size w w') : Fr S w w' := ⟨h.os, h.tape, h.output, h.size, fun i hi _ => h.block i hi⟩
theorem Fr.below (h : Fr S w w') (hs : ∀ k, S k → w.heap.size ≤ k) : Below w.heap.size w w' := ⟨h.os, h.tape, h.output, h.size, fun i hi => h.block i hi (fun hk => absurd hi (Nat.not_lt.2 (hs i hk)))⟩
theorem Fr.belowB {B : Nat} (h : Fr S w w') (hs : ∀ k, S k → B ≤ k) (hB : B ≤ w.heap.size) : Below B w w' := ⟨h.os, h.tape, h.output, h.size, fun i hi => h.block i (Nat.lt_of_lt_of_le hi hB) (fun hk => absurd hi (Nat.not_lt.2 (hs i hk)))⟩
theorem Fr.then_below (h : Fr S w w1) (h2 : Below w1.heap.size w1 w2) : Fr S w w2 := h.step (Fr.of_below S h2)
theorem Fr.mono (h : Fr S w w') (hs : ∀ k, S k → S2 k) : Fr S2 w w' := ⟨h.os, h.tape, h.output, h.size, fun i hi hn => h.block i hi (fun hk => hn (hs i hk))⟩
theorem Fr.alloc (h : Fr S w w1) (o : Obj) : Fr S w (w1.alloc o) := h.then_below (below_alloc (Below.refl _ _) o)
theorem Fr.drew (h : Fr S w w1) : Fr S w w1.drew := h.then_below (below_drew (Below.refl _ _))
theorem Fr.drewN (h : Fr S w w1) (n : Nat) : Fr S w (w1.drewN n) := h.then_below (pw_below_drewN (Below.refl _ _) n)
theorem Fr.set_ (w : World) (a : Addr) (v : Value) (ha : S a.block) : Fr S w (w.setCell a v) :=
  have hb : Below a.block w (w.setCell a v) := (Below.refl _ w).setCell (Nat.le_refl _) v
  ⟨hb.os, hb.tape, hb.output, hb.size, fun i _ hn => Below.heap_setCell w a v i (fun e => hn (e ▸ ha))⟩
theorem Fr.setCell (h : Fr S w w1) (a : Addr) (v : Value) (ha : S a.block) : Fr S w (w1.setCell a v) := h.step (Fr.set_ w1 a v ha)
theorem Fr.heap (h : Fr S w w') {g : Nat} {o : Obj} (hg : w.heap[g]? = some o) (hn : ¬ S g) : w'.heap[g]? = some o := (h.block g (blk_lt hg) hn).trans hg
theorem Fr.cell (h : Fr S w w') {a : Addr} {v : Value} (hc : w.cell? a = some v) (hn : ¬ S a.block) : w'.cell? a = some v := by
  have hlt := World.block_lt_of_cell? w a hc
  have := h.block a.block hlt hn
  simp only [World.cell?] at hc ⊢
  rw [this]
  exact hc
theorem add_block (a : Addr) (j : Nat) : (a.add j).block = a.block := by
  unfold Addr.add
  split <;> rfl
theorem Fr.int {k : IntKind} {A : Option Addr} {n : Nat} {xs : List Int} (h : Fr S w w') (hc : (Kd.int k).C w A n xs) (hn : ∀ ad, A = some ad → 0 < n → ¬ S ad.block) : (Kd.int k).C w' A n xs := by
  have hr := Kd.reads_of_C (enc := Value.int k) (d := (0 : Int)) (h1 := fun _ => rfl) hc
  refine Kd.C_of_reads (d := (0 : Int)) (h1 := fun _ => rfl) ⟨hr.1, hr.2.1, fun hp => ?_⟩
  obtain ⟨ad, e, hcell⟩ := hr.2.2 hp
  exact ⟨ad, e, fun j hj => h.cell (hcell j hj) (by rw [add_block]; exact hn ad e hp)⟩
theorem Fr.string {A : Option Addr} {n : Nat} {xs : List ByteArray} (h : Fr S w w') (hc : Kd.string.C w A n xs) (hn : ∀ ad, A = some ad → 0 < n → ¬ S ad.block) : Kd.string.C w' A n xs := by
  have hr := Kd.reads_of_C (enc := Value.string) (d := ByteArray.empty) (h1 := fun _ => rfl) hc
  refine Kd.C_of_reads (d := ByteArray.empty) (h1 := fun _ => rfl) ⟨hr.1, hr.2.1, fun hp => ?_⟩
  obtain ⟨ad, e, hcell⟩ := hr.2.2 hp
  exact ⟨ad, e, fun j hj => h.cell (hcell j hj) (by rw [add_block]; exact hn ad e hp)⟩
end Go.Proofs.YtllgcnckaodjkaaDoor.Q
