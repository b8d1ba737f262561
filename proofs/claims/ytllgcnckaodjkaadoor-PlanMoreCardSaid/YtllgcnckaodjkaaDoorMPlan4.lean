/- The walk of plan.Order where no package comes in; and the document's example of layer 28. -/
import Derived.Test.YtllgcnckaodjkaaDoorMPlan3
namespace Go.Proofs.YtllgcnckaodjkaaDoor.Q
open Go.RowKit Go.Proofs.YtllgcnckaodjkaaDoor.Plain Go.Proofs.YtllgcnckaodjkaaDoorW.PrintWords

theorem ins_nil (W : World) (P1 : Value) :
    Calls Tryd.prog 47 #[.slice none 0 0, .int .i64 0, .int .i64 0, .func (.func 22) #[] #[P1]] W fun e w' => e = .returned (.tuple #[]) ∧ W = w' := by
  go_enter Tryd.func47, Tryd.ntmps47
  go_wp2
  refine wp_loop_rounds 1 ?_
  rw [rounds_succ]
  go_wp2
  go_end0
  exact ⟨rfl, rfl⟩
theorem pdq_nil (W : World) (P1 : Value) (lim : Int) :
    Calls Tryd.prog 35 #[.slice none 0 0, .int .i64 0, .int .i64 0, .int .i64 lim, .func (.func 22) #[] #[P1]] W fun e w' => e = .returned (.tuple #[]) ∧ W = w' := by
  have hi := Lib.hid (fun W => ins_nil W P1)
  go_enter Tryd.func35, Tryd.ntmps35
  go_wp2
  refine wp_loop_rounds 1 ?_
  rw [rounds_succ]
  go_wp2_with (go_at_call 47; refine (hi.out _).mono ?_; rintro e w' ⟨rfl, rfl⟩)
  first | go_end0 | (refine bodyPost_ret (results_none rfl _ _ _) rfl ?_)
  exact ⟨rfl, rfl⟩
theorem sort_nil (W : World) (P1 : Value) :
    Calls Tryd.prog 21 #[.slice none 0 0, .func (.func 22) #[] #[P1]] W fun e w' => e = .returned (.tuple #[]) ∧ W = w' := by
  have hlen : ∀ (W : World), Calls Tryd.prog 36 #[.int .u64 0] W fun e w' => e = .returned (.int .i64 (Lib.bitLen (0 : Int).toNat)) ∧ w' = W := fun W => Tryd.bits_Len 0 W (by omega) (by omega)
  generalize (Lib.bitLen (0 : Int).toNat : Int) = lim at hlen
  have hp := Lib.hid (fun W => pdq_nil W P1 lim)
  have hlen := Lib.hid hlen
  go_enter Tryd.func21, Tryd.ntmps21
  go_wp2_with (first | (go_at_call 36; refine (hlen.out _).mono ?_; rintro e w' ⟨rfl, rfl⟩) | (go_at_call 35; refine (hp.out _).mono ?_; rintro e w' ⟨rfl, rfl⟩))
  go_end0
  exact ⟨rfl, rfl⟩

set_option maxHeartbeats 1000000 in
theorem order_nil (w : World) (Ath Ap : Option Addr) (cth cp : Nat) (th : List ByteArray) (k : Nat) (hCt : Kd.string.C w Ath th.length th) (hct : th.length ≤ cth) (hf : plan_first.f k th [] = some (0, ⟨#[]⟩)) :
    Calls Tryd.prog 10 #[.slice Ath th.length cth, .slice Ap 0 cp] w fun e w' => e = .returned (.tuple #[.slice none 0 0, .int .i64 0, .string ⟨#[]⟩]) ∧ Below w.heap.size w w' := by
  have hfirst : Hid (∀ W, Below w.heap.size w W → Calls Tryd.prog 20 #[.slice Ath th.length cth, .slice Ap 0 cp] W fun e w' => e = .returned (.tuple #[.int .i64 0, .string ⟨#[]⟩]) ∧ Below W.heap.size W w') := Lib.hid (fun W hW => plan_first.calls k Ath cth th Ap cp [] 0 ⟨#[]⟩ W (Kd.C_below hCt hW) hct ⟨rfl, by decide, fun h => absurd h (Nat.lt_irrefl _)⟩ (Nat.zero_le _) hf)
  have hs := Lib.hid (fun W P1 => sort_nil W P1)
  clear hCt hct hf
  go_enter Tryd.func10, Tryd.ntmps10
  go_wp2
  go_step3
  go_wp2_with (go_at_call 20; refine (hfirst.out _ (below_alloc (Below.refl _ w) _)).mono ?_; rintro e1 w1 ⟨rfl, hb1⟩; have HB1 := Lib.hid (below_then (below_alloc (Below.refl _ w) _) (by rw [World.size_alloc]; omega) hb1); have hbv1 : w1.cell? ⟨w.heap.size, 0, none⟩ = some (.slice Ap 0 cp) := (blk_cell ((hb1.block w.heap.size (by rw [World.size_alloc]; omega)).trans (heap_alloc_new w _)) 0).trans rfl; clear hb1)
  refine wp_loop_rounds 1 ?_
  rw [rounds_succ]
  go_wp2_with (go_at_call 21; refine (hs.out _ _).mono ?_; rintro e w' ⟨rfl, rfl⟩)
  try go_step3
  go_wp2
  refine wp_loop_rounds 1 ?_
  rw [rounds_succ]
  go_wp2
  try rw [Exit.noGoto_ret]
  go_ret3
  exact ⟨rfl, HB1.out⟩
end Go.Proofs.YtllgcnckaodjkaaDoor.Q
