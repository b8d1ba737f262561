/- DefReads at the octets that a row's reading gives. -/
import Derived.Test.YtoiaancehakiiaaDoorMDefReads
namespace Go.Proofs.YtoiaancehakiiaaDoor.Q
open Go.RowKit Go.Proofs.YtoiaancehakiiaaDoor.Plain Go.Proofs.YtoiaancehakiiaaDoorW.PrintWords

/-- the octets that came in: what the row's reading gives -/
def IsRow (k : IntKind) (w : World) (a : Option Addr) (len cap : Nat) (zs : List Int) : Prop :=
  (a = none ∧ len = 0 ∧ cap = 0 ∧ zs = []) ∨
  ∃ x, a = some x ∧ len ≤ cap ∧ cap ≤ maxLen ∧ zs.length = cap ∧ (∀ i, i < zs.length → w.cell? (x.add i) = some (.int k (zs.getD i 0))) ∧ ∀ n ∈ zs, (Lit.int k n).wf = true

theorem bytes_of_wf (l : List Int) (h : ∀ n ∈ l, (Lit.int .u8 n).wf = true) : bytesOf (strOfNums l) = l := by
  unfold bytesOf strOfNums
  simp only [List.map_map]
  refine (List.map_congr_left (g := id) fun n hn => ?_).trans (List.map_id l)
  have h1 := h n hn
  have h2 : (0 : Int) ≤ n ∧ n ≤ 255 := by
    simp only [Lit.wf, Bool.and_eq_true, decide_eq_true_eq] at h1
    exact h1
  show ((UInt8.ofNat n.toNat).toNat : Int) = n
  rw [UInt8.toNat_ofNat']
  omega
theorem defReads_walk (a : Option Addr) (len cap : Nat) (zs : List Int) (w : World) (h : IsRow .u8 w a len cap zs) :
    Calls Tryd.prog 3 #[.slice a len cap] w fun x w' => x = .returned (.bool true) ∧ Below w.heap.size w w' := by
  have hb := bytes_of_wf (zs.take len) (fun n hn => by
    rcases h with ⟨_, _, _, rfl⟩ | ⟨x, _, _, _, _, _, hw⟩
    · simp at hn
    · exact hw n (List.mem_of_mem_take hn))
  have hlen : (zs.take len).length = len := by
    rcases h with ⟨_, rfl, _, rfl⟩ | ⟨x, _, hl, _, hz, _, _⟩
    · rfl
    · rw [List.length_take]; omega
  have hmax : len ≤ 9223372036854775807 := by
    rcases h with ⟨_, rfl, _, rfl⟩ | ⟨x, _, hl, hm, _, _, _⟩
    · omega
    · exact Nat.le_trans hl hm
  have hB : (strOfNums (zs.take len)).size = len := by rw [← bytesOf_length, hb, hlen]
  have hC : (Kd.int .u8).C w a len (zs.take len) := by
    refine Kd.C_of_reads (enc := Value.int .u8) (d := (0 : Int)) (h1 := fun _ => rfl) ⟨hlen, hmax, fun hp => ?_⟩
    rcases h with ⟨_, rfl, _, rfl⟩ | ⟨x, rfl, hl, hm, hz, hcell, _⟩
    · omega
    · refine ⟨x, rfl, fun j hj => ?_⟩
      rw [hcell j (by omega)]
      simp [List.getD_eq_getElem?_getD, hj]
  by_cases hl : 600 < len
  · exact defReads_long a len cap w hl hmax
  · have := defReads_calls a cap (strOfNums (zs.take len)) w (by rw [hb, hB]; exact hC) (by omega)
    rw [hB] at this
    exact this

end Go.Proofs.YtoiaancehakiiaaDoor.Q
