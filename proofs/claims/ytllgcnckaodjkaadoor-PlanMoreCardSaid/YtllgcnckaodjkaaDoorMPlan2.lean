/- A list of numbers in a block of the call's own: sorted by packages' names, and one taken out. -/
import Derived.Test.YtllgcnckaodjkaaDoorMPlan1
import Derived.Test.YtllgcnckaodjkaaDoorStrOrd
import Derived.Test.YtllgcnckaodjkaaDoorShelf
import Derived.Sort.OwnSortedInts
namespace Go.Proofs.YtllgcnckaodjkaaDoor.Q
open Go.RowKit Go.Proofs.YtllgcnckaodjkaaDoor.Plain Go.Proofs.YtllgcnckaodjkaaDoorW.PrintWords Go.Sort Go.Lib

def bl (a b : ByteArray) : Bool := Op.bytesLess a.toList b.toList
theorem bl_irr : ∀ x : List UInt8, Op.bytesLess x x = false
  | [] => rfl
  | a :: x => by
    have ih := bl_irr x
    have : ¬ a < a := by rw [UInt8.lt_iff_toNat_lt]; omega
    simp [Op.bytesLess, ih, this]
theorem bl_tr : ∀ x y z : List UInt8, Op.bytesLess x y = true → Op.bytesLess y z = true → Op.bytesLess x z = true
  | x, y, [] => by intro _ h; simp [Op.bytesLess] at h
  | x, [], c :: z => by intro h; simp [Op.bytesLess] at h
  | [], b :: y, c :: z => by intro _ _; rfl
  | a :: x, b :: y, c :: z => by
    intro h1 h2
    have ih := bl_tr x y z
    simp only [Op.bytesLess, Bool.or_eq_true, decide_eq_true_eq, Bool.and_eq_true, beq_iff_eq] at h1 h2 ⊢
    rcases h1 with h1 | ⟨rfl, h1⟩
    · rcases h2 with h2 | ⟨rfl, h2⟩
      · left; rw [UInt8.lt_iff_toNat_lt] at *; omega
      · exact .inl h1
    · rcases h2 with h2 | ⟨rfl, h2⟩
      · exact .inl h2
      · exact .inr ⟨rfl, ih h1 h2⟩
theorem bl_irrefl (a : ByteArray) : bl a a = false := bl_irr _
theorem bl_trans {a b c : ByteArray} (h1 : bl a b = true) (h2 : bl b c = true) : bl a c = true := bl_tr _ _ _ h1 h2
theorem tl_eq {a b : ByteArray} (h : a.toList = b.toList) : a = b := tl_inj.1 h
theorem bl_tri {a b : ByteArray} (h : bl a b = false) : bl b a = true ∨ a = b := by
  have ht := bl_total a.toList b.toList
  unfold bl at h ⊢
  rw [h, Bool.false_or] at ht
  cases hb : Op.bytesLess b.toList a.toList
  · rw [hb] at ht
    exact .inr (tl_eq (by simpa using ht))
  · exact .inl rfl
theorem bl_asym {a b : ByteArray} (h : bl a b = true) : bl b a = false := by
  cases hb : bl b a
  · rfl
  · have := bl_trans h hb
    rw [bl_irrefl] at this
    cases this

/-- the block g holds the numbers l, and may be written -/
structure LeftAt (w : World) (g cap : Nat) (l : List Nat) : Prop where
  blk : ∃ cur, w.heap[g]? = some (.cells cur 3 (0, 0)) ∧ cur.size = cap
  len : l.length ≤ cap
  cap : cap ≤ 9223372036854775807
  cells : ∀ j, j < l.length → w.cell? ⟨g, j, none⟩ = some (.int .i64 (l.getD j 0 : Nat))
theorem LeftAt.fr {S : Nat → Prop} {w w' : World} {g cap : Nat} {l : List Nat} (h : LeftAt w g cap l) (hf : Fr S w w') (hn : ¬ S g) : LeftAt w' g cap l := by
  obtain ⟨⟨cur, hb, hs⟩, h1, h2, h3⟩ := h
  exact ⟨⟨cur, hf.heap hb hn, hs⟩, h1, h2, fun j hj => hf.cell (h3 j hj) hn⟩
theorem LeftAt.lt {w : World} {g cap : Nat} {l : List Nat} (h : LeftAt w g cap l) : g < w.heap.size := by
  obtain ⟨⟨cur, hb, hs⟩, _⟩ := h
  exact blk_lt hb
theorem LeftAt.C {w : World} {g cap : Nat} {l : List Nat} (h : LeftAt w g cap l) : (Kd.int .i64).C w (some ⟨g, 0, none⟩) l.length (ints l) := by
  refine Kd.C_of_reads (enc := Value.int .i64) (d := (0 : Int)) (h1 := fun _ => rfl) ⟨by simp [ints], Nat.le_trans h.len h.cap, fun _ => ⟨_, rfl, fun j hj => ?_⟩⟩
  rw [add_plain, h.cells j hj]
  simp [ints, List.getD_eq_getElem?_getD, hj]
theorem LeftAt.free {w : World} {g cap : Nat} {l : List Nat} (h : LeftAt w g cap l) (j : Nat) : w.frozen? ⟨g, j, none⟩ = false := by
  obtain ⟨⟨cur, hb, hs⟩, _⟩ := h
  exact blk_frozen hb j

theorem setCells_blk (g : Nat) : ∀ (vs : List Value) (o : Nat) (w : World) (cur : Array Value) (t : TypeId), w.heap[g]? = some (.cells cur t (0, 0)) → ∃ cur', (w.setCells g o vs).heap[g]? = some (.cells cur' t (0, 0)) ∧ cur'.size = cur.size
  | [], _, w, cur, t, h => ⟨cur, h, rfl⟩
  | v :: r, o, w, cur, t, h => by
    obtain ⟨cur', h', hs⟩ := setCells_blk g r (o + 1) (w.setCell ⟨g, o, none⟩ v) (cur.setIfInBounds o v) t (blk_set h o v)
    exact ⟨cur', h', by rw [hs]; simp⟩
theorem setCells_fr (g : Nat) : ∀ (vs : List Value) (o : Nat) (w : World), Fr (fun k => k = g) w (w.setCells g o vs)
  | [], _, w => Fr.refl _ w
  | v :: r, o, w => (Fr.set_ (S := fun k => k = g) w ⟨g, o, none⟩ v rfl).step (setCells_fr g r (o + 1) (w.setCell ⟨g, o, none⟩ v))

/-- slices.Delete of the one at place i -/
theorem delete_calls (w : World) (g cap : Nat) (l : List Nat) (i : Nat) (h : LeftAt w g cap l) (hi : i < l.length) :
    Calls Tryd.prog 24 #[.slice (some ⟨g, 0, none⟩) l.length cap, .int .i64 i, .int .i64 (i + 1 : Nat)] w fun e w' => e = .returned (.slice (some ⟨g, 0, none⟩) (l.eraseIdx i).length cap) ∧ LeftAt w' g cap (l.eraseIdx i) ∧ Fr (fun k => k = g) w w' := by
  have hlen : (l.eraseIdx i).length = l.length - 1 := by rw [List.length_eraseIdx, if_pos hi]
  have hc : ∀ j, j < (ints l).length → w.cell? ⟨g, 0 + j, none⟩ = some (.int .i64 ((ints l).getD j 0)) := by
    intro j hj
    have hj' : j < l.length := by simpa [ints] using hj
    rw [Nat.zero_add, h.cells j hj']
    simp [ints, List.getD_eq_getElem?_getD, hj']
  refine (Tryd.slices_Delete_int_cells g 0 l.length cap i (i + 1) (ints l) w (by simp [ints]) h.len h.cap (by omega) (by omega) hc (fun j _ => h.free _)).mono ?_
  rintro e w' ⟨rfl, q, rfl⟩
  have hd : Fr (fun k => k = g) w (w.drewN q) := (Fr.refl _ w).drewN q
  have hbase : LeftAt (w.drewN q) g cap l := by
    obtain ⟨h1, h2, h3, h4⟩ := h
    exact ⟨h1, h2, h3, h4⟩
  generalize w.drewN q = w1 at hd hbase
  have hl : (ints l).take l.length = ints l := List.take_of_length_le (by simp [ints])
  rw [hl]
  obtain ⟨cur, hb, hs⟩ := hbase.blk
  obtain ⟨cur', hb', hs'⟩ := setCells_blk g ((((ints l).take i ++ (ints l).drop (i + 1)) ++ List.replicate (i + 1 - i) 0).map (Value.int .i64)) 0 w1 cur _ hb
  have hvl : ((((ints l).take i ++ (ints l).drop (i + 1)) ++ List.replicate (i + 1 - i) 0).map (Value.int .i64)).length = l.length := by
    simp [ints]; omega
  refine ⟨by rw [hlen, show i + 1 - i = 1 by omega], ⟨⟨cur', hb', hs'.trans hs⟩, by have := h.len; omega, h.cap, fun j hj => ?_⟩, hd.step (setCells_fr g _ 0 w1)⟩
  have hin := World.cell?_setCells_in g ((((ints l).take i ++ (ints l).drop (i + 1)) ++ List.replicate (i + 1 - i) 0).map (Value.int .i64)) 0 w1 (fun k hk => by rw [hvl] at hk; rw [Nat.zero_add, hbase.cells k hk]; rfl) j (by rw [hvl]; omega)
  rw [Nat.zero_add] at hin
  rw [hin]
  congr 1
  rw [hlen] at hj
  have he : (l.eraseIdx i) = l.take i ++ l.drop (i + 1) := List.eraseIdx_eq_take_drop_succ l i
  have hm : (ints l).take i ++ (ints l).drop (i + 1) = ints (l.eraseIdx i) := by rw [he]; simp [ints]
  rw [List.getElem_map]
  congr 1
  have hj2 : j < (ints (l.eraseIdx i)).length := by simp [ints, hlen]; omega
  have : (((ints l).take i ++ (ints l).drop (i + 1)) ++ List.replicate (i + 1 - i) (0 : Int))[j]'(by have := hvl; simp only [List.length_map] at this; omega) = (ints (l.eraseIdx i))[j] := by
    rw [List.getElem_append_left (by rw [hm]; exact hj2)]
    simp only [hm]
  rw [this]
  simp [ints, List.getD_eq_getElem?_getD]
  rw [List.getElem?_eq_getElem (by rw [hlen]; exact hj)]
  rfl

set_option maxRecDepth 100000 in
theorem cmp_calls (W : World) (Bv : Nat) (Ap : Option Addr) (cp : Nat) (ps : PackL) (i k : Nat) (hi : i < ps.length) (hk : k < ps.length) (hbv : W.cell? ⟨Bv, 0, none⟩ = some (.slice Ap ps.length cp)) (hCp : ∀ j, j < ps.length → ∃ ad, Ap = some ad ∧ W.cell? (ad.add (j * 4)) = some (.string (nmP ps j))) :
    Calls Tryd.prog 22 #[.int .i64 i, .int .i64 k, .pointer (some ⟨Bv, 0, none⟩)] W fun e w' => e = .returned (.int .i64 (if bl (nmP ps i) (nmP ps k) = true then -1 else 1)) ∧ ∃ q, w' = W.drewN q := by
  obtain ⟨ad, rfl, hn⟩ := hCp i hi
  obtain ⟨ad', e, hn2⟩ := hCp k hk
  cases e
  have hi0 : (0 : Int) ≤ (i : Int) := by omega
  have hi1 : (i : Int) < (ps.length : Int) := by omega
  have hk0 : (0 : Int) ≤ (k : Int) := by omega
  have hk1 : (k : Int) < (ps.length : Int) := by omega
  clear hCp hi hk
  generalize nmP ps i = n1 at *
  generalize nmP ps k = n2 at *
  cases hb : bl n1 n2
  · have hbb : Op.bytesLess n1.toList n2.toList = false := hb
    clear hb
    go_enter Tryd.func22, Tryd.ntmps22
    go_wp2
    go_quiet (fail)
    go_wp2
    go_ret
    exact ⟨rfl, _, rfl⟩
  · have hbb : Op.bytesLess n1.toList n2.toList = true := hb
    clear hb
    go_enter Tryd.func22, Tryd.ntmps22
    go_wp2
    go_quiet (fail)
    go_wp2
    go_ret
    exact ⟨rfl, _, rfl⟩

theorem putRow_fr {α : Type} [Inhabited α] (enc : α → Value) (w : World) (g m : Nat) (d : Array α) (os : Array Obj) : Fr (fun k => k = g) w (grow (putRow enc (Sort.ahead w m) g 0 d) os) := by
  refine ⟨rfl, rfl, rfl, by simp, fun k hk hne => ?_⟩
  rw [heap_grow_old _ _ (by simpa using hk)]
  have : g ≠ k := fun e => hne e.symm
  simp [putRow, mapBlock, Sort.ahead, Array.getElem?_modify, this]

def sortedP (ps : PackL) (l : List Nat) : Prop := ∀ i j, i < j → j < l.length → bl (nmP ps (l.getD j 0)) (nmP ps (l.getD i 0)) = false
def SortPost (w : World) (ps : PackL) (g cap : Nat) (l : List Nat) (e : Ending) (w' : World) : Prop :=
  e = .returned (.tuple #[]) ∧ ∃ l', l'.Perm l ∧ sortedP ps l' ∧ LeftAt w' g cap l' ∧ Fr (fun k => k = g) w w'

theorem sort_calls (W : World) (Bv g cap : Nat) (Ap : Option Addr) (cp : Nat) (ps : PackL) (l : List Nat) (hL : LeftAt W g cap l) (hin : ∀ i ∈ l, i < ps.length) (h12 : l.length ≤ 12) (hpos : 0 < l.length)
    (hbv : W.cell? ⟨Bv, 0, none⟩ = some (.slice Ap ps.length cp)) (hCp : Kd.C k34 W Ap ps.length ps) (hne : Bv ≠ g) (hnp : ∀ ad, Ap = some ad → ad.block ≠ g) :
    Calls Tryd.prog 21 #[.slice (some ⟨g, 0, none⟩) l.length cap, .func (.func 22) #[] #[.pointer (some ⟨Bv, 0, none⟩)]] W (SortPost W ps g cap l) := by
  have i0 : { i : Nat // i < ps.length } := ⟨l[0], hin _ (List.getElem_mem hpos)⟩
  haveI : Inhabited { i : Nat // i < ps.length } := ⟨i0⟩
  let enc : { i : Nat // i < ps.length } → Value := fun x => .int .i64 (x.1 : Nat)
  let cf : { i : Nat // i < ps.length } → { i : Nat // i < ps.length } → Int := fun x y => if bl (nmP ps x.1) (nmP ps y.1) = true then -1 else 1
  have hlt : ∀ x y, ltOf cf x y = bl (nmP ps x.1) (nmP ps y.1) := by
    intro x y
    show decide ((if bl (nmP ps x.1) (nmP ps y.1) = true then (-1 : Int) else 1) < 0) = _
    cases bl (nmP ps x.1) (nmP ps y.1) <;> simp
  have hS : SWO (ltOf cf) := by
    refine ⟨fun x => by rw [hlt]; exact bl_irrefl _, fun x y z h1 h2 => by rw [hlt] at *; exact bl_trans h1 h2, fun x y z h1 h2 => ?_⟩
    rw [hlt] at *
    rcases bl_tri h1 with a | a
    · rcases bl_tri h2 with b | b
      · exact bl_asym (bl_trans b a)
      · rw [← b]; exact h1
    · rw [a]; exact h2
  let d : Array { i : Nat // i < ps.length } := (l.attach.map fun x => (⟨x.1, hin x.1 x.2⟩ : { i : Nat // i < ps.length })).toArray
  have hds : d.size = l.length := by simp [d]
  have hdat : ∀ j (hj : j < l.length), (d[j]!).1 = l[j] := by
    intro j hj
    have : j < d.size := by rw [hds]; exact hj
    rw [getElem!_pos d j this]
    simp [d]
  have hH : Sort.Holds enc W g 0 d := by
    intro j hj
    rw [hds] at hj
    refine ⟨?_, hL.free _⟩
    rw [Nat.zero_add, hL.cells j hj]
    show _ = some (Value.int .i64 ((d[j]!).1 : Nat))
    rw [hdat j hj]
    simp [List.getD_eq_getElem?_getD, hj]
  have eg : ∀ args w, (callFunc 22 args).run Tryd.prog w = .ok (.enter 22 args) w := enters_of Tryd.func22 (by kernel_rfl) rfl
  have hcmp : CmpReads Tryd.prog 22 #[.pointer (some ⟨Bv, 0, none⟩)] enc cf g 0 d.size W := by
    intro m os dk hsz x y
    have hf : Fr (fun k => k = g) W (sortWorld enc W g 0 m dk os) := putRow_fr enc W g m dk os
    exact cmp_calls (sortWorld enc W g 0 m dk os) Bv Ap cp ps x.1 y.1 x.2 y.2 (hf.cell hbv hne) (fun j hj => by
      obtain ⟨ad, e, hc⟩ := name_cell hCp j hj
      exact ⟨ad, e, hf.cell hc (by rw [Q.add_block]; exact hnp ad e)⟩)
  have hlen : ∀ (n : Nat) (W : World), n ≤ 12 → Calls Tryd.prog 36 #[.int .u64 n] W fun e w' => (∃ l : Int, e = .returned (.int .i64 l)) ∧ w' = W := fun n W h => (Tryd.bits_Len n W (by omega) (by omega)).mono fun _ _ ⟨he, hw⟩ => ⟨⟨_, he⟩, hw⟩
  have hcon := Tryd.slices_SortFunc_small_sorted enc (fun _ => rfl) cf hS 22 #[.pointer (some ⟨Bv, 0, none⟩)] g 0 cap d W eg hcmp hH (by rw [hds]; exact h12) hlen
  rw [hds] at hcon
  refine hcon.mono ?_
  rintro e w' ⟨rfl, d', n, hperm, hsort, rfl⟩
  obtain ⟨hsz, _, hp⟩ := hperm
  have hs' : d'.size = l.length := hsz.trans hds
  have hf : Fr (fun k => k = g) W ((putRow enc W g 0 d').drewN n) := by
    have := (putRow_fr enc W g 0 d' #[]).drewN n
    rw [grow_empty] at this
    exact this
  refine ⟨rfl, d'.toList.map (·.1), ?_, ?_, ?_, hf⟩
  · have e1 : d'.extract 0 l.length = d' := by rw [← hs']; simp
    have e2 : d.extract 0 l.length = d := by rw [← hds]; simp
    rw [e1, e2] at hp
    have := hp.map (·.1)
    have h3 : d.toList.map (·.1) = l := by simp [d]
    rw [h3] at this
    exact this
  · intro i j hij hj
    have hj' : j < l.length := by simpa [hs'] using hj
    have h := hsort i j (Nat.zero_le _) hij hj'
    rw [hlt] at h
    have hg : ∀ k, k < l.length → (d'.toList.map (·.1)).getD k 0 = (d'[k]!).1 := by
      intro k hk
      have hk' : k < d'.size := by rw [hs']; exact hk
      rw [getElem!_pos d' k hk']
      simp [List.getD_eq_getElem?_getD, hk']
    rw [hg j hj', hg i (by omega)]
    exact h
  · obtain ⟨cur, hb, hs⟩ := hL.blk
    have hb' : ((putRow enc W g 0 d').drewN n).heap[g]? = some (.cells (putCells enc 0 d' cur) 3 (0, 0)) := by
      show (putRow enc W g 0 d').heap[g]? = _
      simp [putRow, mapBlock, Array.getElem?_modify, hb, onCells]
    refine ⟨⟨_, hb', by simp [putCells, hs]⟩, by simp [hs', hL.len], hL.cap, fun j hj => ?_⟩
    have hj' : j < l.length := by simpa [hs'] using hj
    have hh := (holds_putRow enc W g 0 d d' hH (hs'.trans hds.symm) j (by rw [hs']; exact hj')).1
    have hk' : j < d'.size := by rw [hs']; exact hj'
    rw [Nat.zero_add] at hh
    refine Eq.trans (b := (putRow enc W g 0 d').cell? ⟨g, j, none⟩) rfl (hh.trans ?_)
    show some (Value.int .i64 ((d'[j]!).1 : Nat)) = _
    rw [getElem!_pos d' j hk']
    simp [List.getD_eq_getElem?_getD, hk']
end Go.Proofs.YtllgcnckaodjkaaDoor.Q
