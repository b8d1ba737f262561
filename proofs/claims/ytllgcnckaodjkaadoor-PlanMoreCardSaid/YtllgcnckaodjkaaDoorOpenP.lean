/- What a row's reading of texts, packages and loaded packages gives: lists of them in memory. -/
import Derived.Test.YtllgcnckaodjkaaDoorRowBase
import Derived.Test.YtllgcnckaodjkaaDoorMOrd
import Derived.Deep.Slices
import Derived.Deep.Fields
import Derived.SliceStrings
set_option linter.unusedVariables false
namespace Go.Proofs.YtllgcnckaodjkaaDoor.Q
open Go.ChangeShapes Go.WideShapes Go.ChangeAt Go.RowKit Go.Lib
open Go.Proofs.YtllgcnckaodjkaaDoorW.PrintWords Go.Shelf Go.Deep

section
variable {H : Type} {enc : TypeId × Value → H} {W : World} {base : Nat} {spare : Nat → Bool} {hd : Bool}
theorem add_twice (a : Addr) (i j : Nat) : (a.add i).add j = a.add (i + j) := by
  unfold Addr.add
  by_cases hi : i = 0 <;> by_cases hj : j = 0 <;> simp [hi, hj, Nat.add_assoc]

set_option maxRecDepth 100000 in
theorem trod_six {fuel : Nat} {cs : List Value} {x : DataW H × List MemPlace} {t : TypeId} {f0 f1 f2 f3 f4 f5 : Field} (hs : Tryd.prog.underlying t = some (.struct #[f0, f1, f2, f3, f4, f5])) (hone : oneCellFields Tryd.prog #[f0, f1, f2, f3, f4, f5] = true) (hC : Tryd.prog.cellsOf t = 6)
    (h : DataW.trod enc Tryd.prog W base spare hd fuel t cs = some x) :
    ∃ (v0 v1 v2 v3 v4 v5 : Value) (y0 y1 y2 y3 y4 y5 : DataW H × List MemPlace) (n : Nat), cs = [v0, v1, v2, v3, v4, v5] ∧
      DataW.trod enc Tryd.prog W base spare hd n f0.type [v0] = some y0 ∧ DataW.trod enc Tryd.prog W base spare hd n f1.type [v1] = some y1 ∧ DataW.trod enc Tryd.prog W base spare hd n f2.type [v2] = some y2 ∧
      DataW.trod enc Tryd.prog W base spare hd n f3.type [v3] = some y3 ∧ DataW.trod enc Tryd.prog W base spare hd n f4.type [v4] = some y4 ∧ DataW.trod enc Tryd.prog W base spare hd n f5.type [v5] = some y5 := by
  obtain ⟨xs, n, _, hx, hl, hlen, hfld⟩ := DataW.trod_struct hs h
  have h6 : cs.length = 6 := hl.trans hC
  match cs, h6 with
  | [c0, c1, c2, c3, c4, c5], _ =>
    match xs, hlen with
    | [y0, y1, y2, y3, y4, y5], _ =>
      obtain ⟨o0, k0⟩ := hone_of hone 0 f0 rfl
      obtain ⟨o1, k1⟩ := hone_of hone 1 f1 rfl
      obtain ⟨o2, k2⟩ := hone_of hone 2 f2 rfl
      obtain ⟨o3, k3⟩ := hone_of hone 3 f3 rfl
      obtain ⟨o4, k4⟩ := hone_of hone 4 f4 rfl
      obtain ⟨o5, k5⟩ := hone_of hone 5 f5 rfl
      exact ⟨c0, c1, c2, c3, c4, c5, y0, y1, y2, y3, y4, y5, n, rfl, by simpa [o0, k0] using hfld 0 f0 rfl, by simpa [o1, k1] using hfld 1 f1 rfl, by simpa [o2, k2] using hfld 2 f2 rfl, by simpa [o3, k3] using hfld 3 f3 rfl, by simpa [o4, k4] using hfld 4 f4 rfl, by simpa [o5, k5] using hfld 5 f5 rfl⟩
set_option maxRecDepth 100000 in
theorem trod_four {fuel : Nat} {cs : List Value} {x : DataW H × List MemPlace} {t : TypeId} {f0 f1 f2 f3 : Field} (hs : Tryd.prog.underlying t = some (.struct #[f0, f1, f2, f3])) (hone : oneCellFields Tryd.prog #[f0, f1, f2, f3] = true) (hC : Tryd.prog.cellsOf t = 4)
    (h : DataW.trod enc Tryd.prog W base spare hd fuel t cs = some x) :
    ∃ (v0 v1 v2 v3 : Value) (y0 y1 y2 y3 : DataW H × List MemPlace) (n : Nat), cs = [v0, v1, v2, v3] ∧
      DataW.trod enc Tryd.prog W base spare hd n f0.type [v0] = some y0 ∧ DataW.trod enc Tryd.prog W base spare hd n f1.type [v1] = some y1 ∧ DataW.trod enc Tryd.prog W base spare hd n f2.type [v2] = some y2 ∧
      DataW.trod enc Tryd.prog W base spare hd n f3.type [v3] = some y3 := by
  obtain ⟨xs, n, _, hx, hl, hlen, hfld⟩ := DataW.trod_struct hs h
  have h4 : cs.length = 4 := hl.trans hC
  match cs, h4 with
  | [c0, c1, c2, c3], _ =>
    match xs, hlen with
    | [y0, y1, y2, y3], _ =>
      obtain ⟨o0, k0⟩ := hone_of hone 0 f0 rfl
      obtain ⟨o1, k1⟩ := hone_of hone 1 f1 rfl
      obtain ⟨o2, k2⟩ := hone_of hone 2 f2 rfl
      obtain ⟨o3, k3⟩ := hone_of hone 3 f3 rfl
      exact ⟨c0, c1, c2, c3, y0, y1, y2, y3, n, rfl, by simpa [o0, k0] using hfld 0 f0 rfl, by simpa [o1, k1] using hfld 1 f1 rfl, by simpa [o2, k2] using hfld 2 f2 rfl, by simpa [o3, k3] using hfld 3 f3 rfl⟩

set_option maxRecDepth 100000 in
theorem trod_strs {n : Nat} {v : Value} {y : DataW H × List MemPlace} (h3 : DataW.trod enc Tryd.prog W 0 (fun _ => true) hd n 22 [v] = some y) :
    ∃ (l : List ByteArray) (A : Option Addr) (c : Nat), v = .slice A l.length c ∧ l.length ≤ c ∧ Kd.string.C W A l.length l := by
  rcases open_strings Tryd.underlying22 Tryd.underlying9 (by kernel_rfl) h3 with ⟨e3, _⟩ | ⟨a, len, cap, ss, e3, _, hl, hm, hz, _, hcell, _⟩
  · obtain rfl := (List.cons.inj e3).1
    exact ⟨[], none, 0, rfl, Nat.le_refl _, Kd.C_nil Kd.string W⟩
  · obtain rfl := (List.cons.inj e3).1
    have hz2 : ss.length = cap := by simpa using hz
    have hlen : (ss.take len).length = len := by rw [List.length_take]; omega
    refine ⟨ss.take len, some a, cap, by rw [hlen], by rw [hlen]; exact hl, ?_⟩
    have hml : len ≤ 9223372036854775807 := Nat.le_trans hl hm
    rw [hlen]
    refine Kd.C_of_reads (enc := Value.string) (d := ByteArray.empty) (h1 := fun _ => rfl) ⟨hlen, hml, fun _ => ⟨a, rfl, fun j hj => ?_⟩⟩
    rw [hcell j (by omega)]
    simp [List.getD_eq_getElem?_getD, hj]

/-- a row of structures, each of which opens -/
theorem open_rows {α : Type} (kd : Kd α) (z : α) (ts te : TypeId) (hs : Tryd.prog.underlying ts = some (.slice te)) (hC : Tryd.prog.cellsOf te = kd.sz)
    (hel : ∀ {fuel : Nat} {cs : List Value} {x : DataW H × List MemPlace}, DataW.trod enc Tryd.prog W 0 (fun _ => true) hd fuel te cs = some x → ∃ s : α, kd.K W s cs)
    {fuel : Nat} {v : Value} {x : DataW H × List MemPlace} (h : DataW.trod enc Tryd.prog W 0 (fun _ => true) hd fuel ts [v] = some x) :
    ∃ (l : List α) (A : Option Addr) (c : Nat), v = .slice A l.length c ∧ l.length ≤ c ∧ kd.C W A l.length l := by
  rcases open_slice hs h with ⟨e, _⟩ | ⟨a, len, cap, m, n, D, Pl, e, _, hl, hm, hmm, _, hi⟩
  · obtain rfl := (List.cons.inj e).1
    exact ⟨[], none, 0, rfl, Nat.le_refl _, Kd.C_nil _ W⟩
  · obtain rfl := (List.cons.inj e).1
    have hmm' : m = cap := by simpa using hmm
    have hall : ∀ i, ∃ s : α, i < len → ∃ c : List Value, c.length = kd.sz ∧ kd.K W s c ∧ ∀ j u, c[j]? = some u → W.cell? (a.add (i * kd.sz + j)) = some u := by
      intro i
      by_cases hlt : i < len
      · obtain ⟨cs', hcs, htr⟩ := hi i (by omega)
        rw [hC] at hcs
        obtain ⟨s, hK⟩ := hel htr
        obtain ⟨_, hlen, hat⟩ := World.cells?_some hcs
        refine ⟨s, fun _ => ⟨cs', hlen, hK, fun j u hu => ?_⟩⟩
        have hj : j < kd.sz := by
          have := (List.getElem?_eq_some_iff.1 hu).1
          omega
        rw [← add_twice, hat j hj]
        exact hu
      · exact ⟨z, fun h => absurd h hlt⟩
    have hch := Classical.axiomOfChoice hall
    obtain ⟨f, hf⟩ := hch
    refine ⟨(List.range len).map f, some a, cap, by simp, by simpa using hl, ?_⟩
    have hlen : ((List.range len).map f).length = len := by simp
    rw [hlen]
    refine ⟨hlen, Nat.le_trans hl hm, fun _ => ⟨a, rfl, fun j p hj => ?_⟩⟩
    have hjl : j < len := by
      have := (List.getElem?_eq_some_iff.1 hj).1
      simpa using this
    have hp : f j = p := by simpa [hjl] using hj
    obtain ⟨c, hcs, hK, hcell⟩ := hf j hjl
    rw [hp] at hK
    exact ⟨c, hcs, hK, hcell⟩

set_option maxRecDepth 100000 in
theorem trod_def {fuel : Nat} {cs : List Value} {x : DataW H × List MemPlace} (h : DataW.trod enc Tryd.prog W 0 (fun _ => true) hd fuel 68 cs = some x) : ∃ s : S68, Kd.K k68 W s cs := by
  obtain ⟨v0, v1, v2, v3, v4, v5, y0, y1, y2, y3, y4, y5, n, rfl, h0, h1, h2, h3, h4, h5⟩ := trod_six Tryd.underlying68 (by kernel_rfl) (by kernel_rfl) h
  obtain ⟨kind, e0, _⟩ := DataW.trod_int Tryd.underlying3 h0
  obtain ⟨cls, e1, _⟩ := DataW.trod_string Tryd.underlying9 h1
  obtain ⟨sup, e2, _⟩ := DataW.trod_string Tryd.underlying9 h2
  obtain ⟨sel, e4, _⟩ := DataW.trod_string Tryd.underlying9 h4
  obtain ⟨src, e5, _⟩ := DataW.trod_string Tryd.underlying9 h5
  obtain rfl := (List.cons.inj e0).1
  obtain rfl := (List.cons.inj e1).1
  obtain rfl := (List.cons.inj e2).1
  obtain rfl := (List.cons.inj e4).1
  obtain rfl := (List.cons.inj e5).1
  obtain ⟨l, A, c, rfl, hc, hC⟩ := trod_strs h3
  exact ⟨⟨kind, cls, sup, l, sel, src⟩, k68_mk W ⟨kind, cls, sup, l, sel, src⟩ hc hC⟩
theorem trod_defs {n : Nat} {v : Value} {y : DataW H × List MemPlace} (h : DataW.trod enc Tryd.prog W 0 (fun _ => true) hd n 32 [v] = some y) :
    ∃ (l : List S68) (A : Option Addr) (c : Nat), v = .slice A l.length c ∧ l.length ≤ c ∧ Kd.C k68 W A l.length l :=
  open_rows k68 z68 32 68 Tryd.underlying32 (by kernel_rfl) trod_def h
set_option maxRecDepth 100000 in
theorem trod_pack {fuel : Nat} {cs : List Value} {x : DataW H × List MemPlace} (h : DataW.trod enc Tryd.prog W 0 (fun _ => true) hd fuel 34 cs = some x) : ∃ s : S34, Kd.K k34 W s cs := by
  obtain ⟨v0, v1, v2, v3, y0, y1, y2, y3, n, rfl, h0, h1, h2, h3⟩ := trod_four Tryd.underlying34 (by kernel_rfl) (by kernel_rfl) h
  obtain ⟨nm, e0, _⟩ := DataW.trod_string Tryd.underlying9 h0
  obtain ⟨ver, e1, _⟩ := DataW.trod_int Tryd.underlying3 h1
  obtain rfl := (List.cons.inj e0).1
  obtain rfl := (List.cons.inj e1).1
  obtain ⟨nd, A2, c2, rfl, hc2, hC2⟩ := trod_strs h2
  obtain ⟨df, A3, c3, rfl, hc3, hC3⟩ := trod_defs h3
  exact ⟨⟨nm, ver, nd, df⟩, k34_mk W ⟨nm, ver, nd, df⟩ hc2 hC2 hc3 hC3⟩
theorem trod_packs {n : Nat} {v : Value} {y : DataW H × List MemPlace} (h : DataW.trod enc Tryd.prog W 0 (fun _ => true) hd n 23 [v] = some y) :
    ∃ (l : PackL) (A : Option Addr) (c : Nat), v = .slice A l.length c ∧ l.length ≤ c ∧ Kd.C k34 W A l.length l :=
  open_rows k34 z34 23 34 Tryd.underlying23 (by kernel_rfl) trod_pack h
set_option maxRecDepth 100000 in
theorem trod_loaded {fuel : Nat} {cs : List Value} {x : DataW H × List MemPlace} (h : DataW.trod enc Tryd.prog W 0 (fun _ => true) hd fuel 42 cs = some x) : ∃ s : S42, Kd.K k42 W s cs := by
  obtain ⟨v0, v1, v2, v3, y0, y1, y2, y3, n, rfl, h0, h1, h2, h3⟩ := trod_four Tryd.underlying42 (by kernel_rfl) (by kernel_rfl) h
  obtain ⟨nm, e0, _⟩ := DataW.trod_string Tryd.underlying9 h0
  obtain ⟨ver, e1, _⟩ := DataW.trod_int Tryd.underlying3 h1
  obtain rfl := (List.cons.inj e0).1
  obtain rfl := (List.cons.inj e1).1
  obtain ⟨nd, A2, c2, rfl, hc2, hC2⟩ := trod_strs h2
  obtain ⟨df, A3, c3, rfl, hc3, hC3⟩ := trod_strs h3
  exact ⟨⟨nm, ver, nd, df⟩, k42_mk W ⟨nm, ver, nd, df⟩ hc2 hC2 hc3 hC3⟩
theorem trod_loadeds {n : Nat} {v : Value} {y : DataW H × List MemPlace} (h : DataW.trod enc Tryd.prog W 0 (fun _ => true) hd n 40 [v] = some y) :
    ∃ (l : List S42) (A : Option Addr) (c : Nat), v = .slice A l.length c ∧ l.length ≤ c ∧ Kd.C k42 W A l.length l :=
  open_rows k42 z42 40 42 Tryd.underlying40 (by kernel_rfl) trod_loaded h
theorem heap_pack : Kd.Heap k34 := Kd.heap_iso _ (Kd.heap_pair Kd.heap_string (Kd.heap_pair (Kd.heap_int _) (Kd.heap_pair (Kd.heap_slice _ Kd.heap_string) (Kd.heap_slice _ (Kd.heap_iso _ (Kd.heap_pair (Kd.heap_int _) (Kd.heap_pair Kd.heap_string (Kd.heap_pair Kd.heap_string (Kd.heap_pair (Kd.heap_slice _ Kd.heap_string) (Kd.heap_pair Kd.heap_string Kd.heap_string))))))))))
theorem packs_V {A : Option Addr} {c : Nat} {l : PackL} (hc : l.length ≤ c) (h : Kd.C k34 W A l.length l) : Kd.V k34 34 W W.heap.size (fun _ => True) (.slice A l.length c) l :=
  Kd.V_mk hc (fun W' hW => heap_pack.C (fun k hk => hW k trivial hk) h)
end
end Go.Proofs.YtllgcnckaodjkaaDoor.Q
