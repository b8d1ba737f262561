/- Plain laws of the printed functions of the reference's names: In. -/
import Derived.Test.YtllgcnckaodjkaaDoorQ3
import Derived.Test.YtllgcnckaodjkaaDoorPure1
namespace Go.Proofs.YtllgcnckaodjkaaDoor.Q
open Go.RowKit Go.Proofs.YtllgcnckaodjkaaDoor.Plain Go.Proofs.YtllgcnckaodjkaaDoorW.PrintWords

theorem rin_at (l : List ByteArray) (s : ByteArray) (hl : l.length ≤ 9223372036854775807) (d : Nat) : ∀ (k i : Nat), l.length - i = d → i ≤ l.length → d < k → (∀ j, j < i → l.getD j ByteArray.empty ≠ s) →
    monticuleref06_In.l0 k l s (i : Int) = some (memB l s) := by
  induction d with
  | zero =>
    intro k i hd hi hk hn
    obtain ⟨k, rfl⟩ : ∃ m, k = m + 1 := ⟨k - 1, by omega⟩
    simp only [monticuleref06_In.l0]
    rw [if_neg (by omega), memB_not]
    intro hm
    obtain ⟨j, hj, he⟩ := List.mem_iff_getElem.1 hm
    apply hn j (by omega)
    rw [List.getD_eq_getElem?_getD, List.getElem?_eq_getElem hj]
    exact he
  | succ d ih =>
    intro k i hd hi hk hn
    obtain ⟨k, rfl⟩ : ∃ m, k = m + 1 := ⟨k - 1, by omega⟩
    simp only [monticuleref06_In.l0]
    rw [if_pos (by omega), if_pos (by omega), rdOf_nat]
    by_cases he : l.getD i ByteArray.empty = s
    · rw [if_pos (tl_inj.2 he), (memB_iff _ _).2]
      rw [← he, List.getD_eq_getElem?_getD, List.getElem?_eq_getElem (by omega)]
      exact List.getElem_mem _
    · rw [if_neg (fun h => he (tl_inj.1 h)), w64 i (by omega)]
      exact ih k (i + 1) (by omega) (by omega) (by omega) (fun j hj => by
        by_cases e : j = i
        · subst e; exact he
        · exact hn j (by omega))
theorem rin_ok (k : Nat) (l : List ByteArray) (s : ByteArray) (hl : l.length ≤ 9223372036854775807) (hk : l.length < k) : monticuleref06_In.f k l s = some (memB l s) :=
  rin_at l s hl l.length k 0 (by omega) (by omega) hk (fun j hj => by omega)
end Go.Proofs.YtllgcnckaodjkaaDoor.Q
