/- The law SnapOrders: whatever definitions and changes come in, the call returns true and they stay (Rows.SnapOrdersSaid), and its tied card (Rows.SnapOrdersCardSaid). -/
import Derived.Test.YtoiaancehakiiaaDoorPure4
import Derived.Test.YtoiaancehakiiaaDoorFrame
import Derived.Maps.RangeWalk
import Derived.Maps.OwnSet
import Derived.Maps.Ext
import Derived.Laws.IdiomRangeMap
import Derived.Lib.SlMapMerge
import Derived.Lib.Hide
import Derived.Test.YtoiaancehakiiaaDoorShelf
import Derived.Deep.QuietTactic
import Derived.BigQuiet
import Derived.Test.YtoiaancehakiiaaDoorQ2
import Derived.Deep.RegionWith
import Derived.Deep.RegionHeld3
import Derived.Carry
import Derived.Outline
import Derived.Deep.LoopGhost
import Derived.Test.YtoiaancehakiiaaDoorPure5
import Derived.Test.YtoiaancehakiiaaDoorRowBase
import Derived.Deep.Slices
import Derived.Deep.Fields
import Derived.SliceStrings
import Derived.Test.YtoiaancehakiiaaDoorQ4
/- Maps from keys to definitions: what such a map holds, key by key; the laws at its operations. -/
namespace Go.Proofs.YtoiaancehakiiaaDoor.Q
open Go.RowKit Go.Maps Go.Proofs.YtoiaancehakiiaaDoor.Plain Go.Proofs.YtoiaancehakiiaaDoorW.PrintWords

/-- a definition as a value: its variables lie at A -/
@[reducible] def dVal (d : DefV) (A : Option Addr) (c : Nat) : Value := .agg #[.int .i64 d.kind, .string d.cls, .string d.sup, .slice A d.vars.length c, .string d.sel, .string d.src]
def Holds (w : World) (v : Value) (d : DefV) : Prop := ∃ A c, v = dVal d A c ∧ d.vars.length ≤ c ∧ Kd.string.C w A d.vars.length d.vars

def keyL (k : ByteArray) : Lit := .string k.data.toList
theorem keyL_inj {a b : ByteArray} (h : keyL a = keyL b) : a = b := by
  unfold keyL at h
  injection h with h
  exact ByteArray.ext (Array.toList_inj.1 h)
theorem keyL_key (k : ByteArray) : WideAt.IsKeyLit (keyL k) := by
  unfold keyL
  simp [WideAt.IsKeyLit]
/-- a value of a map's element, whole -/
def RV (v : Value) : Option (DataW Value × List MemPlace) := some (.held v, [])
theorem strK : Keyed Tryd.prog 9 := string_keyed Tryd.underlying9
theorem keyOf_mk {k : ByteArray} (h : k.size ≤ maxLen) : keyOf Tryd.prog 9 (.string k) = some (keyL k) := WideMaps.keyOf_string_mk Tryd.underlying9 h
theorem keyOf_inv {v : Value} {kl : Lit} (h : keyOf Tryd.prog 9 v = some kl) : ∃ k, v = .string k ∧ kl = keyL k ∧ k.size ≤ maxLen := by
  cases v <;> simp [keyOf, Tryd.underlying9, mapKey] at h
  obtain ⟨hs, rfl⟩ := h
  exact ⟨_, rfl, rfl, hs⟩

theorem C_not_map {w : World} {ad : Addr} {n : Nat} {xs : List ByteArray} (h : Kd.string.C w (some ad) n xs) (hn : 0 < n) {es : Array MapEntry} {clock : Nat} : w.heap[ad.block]? ≠ some (.map es clock) := by
  intro he
  have hr := Kd.reads_of_C (enc := Value.string) (d := ByteArray.empty) (h1 := fun _ => rfl) h
  obtain ⟨ad', e, hc⟩ := hr.2.2 hn
  injection e with e
  subst e
  have h0 := hc 0 hn
  have hb : (ad.add 0).block = ad.block := add_block ad 0
  simp [World.cell?, hb, he] at h0

theorem Holds.fr {S : Nat → Prop} {w w' : World} {v : Value} {d : DefV} (h : Holds w v d) (hf : Fr S w w') (hS : ∀ k, S k → k < w.heap.size → ∃ es clock, w.heap[k]? = some (.map es clock)) : Holds w' v d := by
  obtain ⟨A, c, hv, hc, hC⟩ := h
  refine ⟨A, c, hv, hc, hf.string hC (fun ad ha hn hs => ?_)⟩
  subst ha
  have hr := Kd.reads_of_C (enc := Value.string) (d := ByteArray.empty) (h1 := fun _ => rfl) hC
  obtain ⟨ad', e, hcell⟩ := hr.2.2 hn
  injection e with e
  subst e
  have hlt := World.block_lt_of_cell? w _ (hcell 0 hn)
  rw [add_block] at hlt
  obtain ⟨es, clock, hm⟩ := hS _ hs hlt
  exact C_not_map hC hn hm
theorem Holds.below {w w' : World} {v : Value} {d : DefV} (h : Holds w v d) (hb : Below w.heap.size w w') : Holds w' v d :=
  h.fr (Fr.of_below (fun _ => False) hb) (fun _ h => h.elim)

/-- block b of w is a map of just n entries: F tells each key's definition -/
def MapAt (w : World) (b n : Nat) (F : ByteArray → Option DefV) : Prop :=
  ∃ D : DataW Value, w.ownsMap Tryd.prog 9 RV b n D ∧ Maps.size D = n ∧ ∀ k : ByteArray, k.size ≤ maxLen →
    Maps.has D (keyL k) = (F k).isSome ∧ ∀ d, F k = some d → ∃ v, (∀ zd, D.atKey (keyL k) zd = .held v) ∧ Holds w v d

theorem own_tight {w : World} {b n : Nat} {D : DataW Value} (h : w.ownsMap Tryd.prog 9 RV b n D) : w.ownsMap Tryd.prog 9 RV b (Maps.size D) D := by
  obtain ⟨es, clock, hb, F, hs, rfl⟩ := h
  exact ⟨es, clock, hb, F, by simp [Maps.size, length_sorted], rfl⟩
theorem own_isMapBlock {w : World} {b n : Nat} {D : DataW Value} (h : w.ownsMap Tryd.prog 9 RV b n D) : ∃ es clock, w.heap[b]? = some (.map es clock) := by
  obtain ⟨es, clock, hb, _⟩ := h
  exact ⟨es, clock, hb⟩

theorem MapAt.lt {w : World} {b n : Nat} {F : ByteArray → Option DefV} (h : MapAt w b n F) : b < w.heap.size := by
  obtain ⟨D, ho, _⟩ := h
  exact ho.lt
theorem MapAt.isMapBlock {w : World} {b n : Nat} {F : ByteArray → Option DefV} (h : MapAt w b n F) : ∃ es clock, w.heap[b]? = some (.map es clock) := by
  obtain ⟨D, ho, _⟩ := h
  exact own_isMapBlock ho
theorem MapAt.made (w : World) : MapAt (w.alloc (.map #[] 0)) w.heap.size 0 (fun _ => none) :=
  ⟨.map [], World.ownsMap_made _ _ _ _, rfl, fun _ _ => ⟨rfl, fun _ h => nomatch h⟩⟩
theorem own_fr {S : Nat → Prop} {w w' : World} {b n : Nat} {D : DataW Value} (h : w.ownsMap Tryd.prog 9 RV b n D) (hf : Fr S w w') (hb : ¬ S b) : w'.ownsMap Tryd.prog 9 RV b n D := by
  have hlt := h.lt
  obtain ⟨es, clock, hb', F, hs, hD⟩ := h
  exact ⟨es, clock, (hf.block b hlt hb).trans hb', F, hs, hD⟩
theorem MapAt.fr {S : Nat → Prop} {w w' : World} {b n : Nat} {F : ByteArray → Option DefV} (h : MapAt w b n F) (hf : Fr S w w') (hb : ¬ S b) (hS : ∀ k, S k → k < w.heap.size → ∃ es clock, w.heap[k]? = some (.map es clock)) : MapAt w' b n F := by
  obtain ⟨D, ho, hs, hF⟩ := h
  refine ⟨D, own_fr ho hf hb, hs, fun k hk => ⟨(hF k hk).1, fun d hd => ?_⟩⟩
  obtain ⟨v, hv, hh⟩ := (hF k hk).2 d hd
  exact ⟨v, hv, hh.fr hf hS⟩
theorem MapAt.below {w w' : World} {b n : Nat} {F : ByteArray → Option DefV} (h : MapAt w b n F) (hb : Below w.heap.size w w') : MapAt w' b n F :=
  h.fr (Fr.of_below (fun _ => False) hb) (fun h => h) (fun _ h => h.elim)

/-- F with one entry more, or another one -/
def upd (F : ByteArray → Option DefV) (k : ByteArray) (d : DefV) : ByteArray → Option DefV := fun x => if x = k then some d else F x
def del (F : ByteArray → Option DefV) (k : ByteArray) : ByteArray → Option DefV := fun x => if x = k then none else F x

theorem Fr.turned {w w' : World} {b : Nat} (h : w.grownBy w' (some b)) : Fr (fun k => k = b) w w' := ⟨h.os, h.tape, h.output, h.size, fun i hi hn => h.block i hi (fun e => hn (Option.some.inj e))⟩

theorem MapAt.put {w : World} {b n : Nat} {F : ByteArray → Option DefV} (h : MapAt w b n F) {k : ByteArray} (hk : k.size ≤ maxLen) (hn : n < maxLen) {v : Value} {d : DefV} (hv : Holds w v d) :
    ∃ w', (Instr.mapUpdate 67 (.map (some b)) (.string k) v).run Tryd.prog w = .ok () w' ∧ MapAt w' b (if (F k).isSome = true then n else n + 1) (upd F k d) ∧ Fr (fun k => k = b) w w' := by
  have hb := h.isMapBlock
  obtain ⟨D, ho, hs, hF⟩ := h
  obtain ⟨w', hrun, ho', hg⟩ := ho.update strK Tryd.underlying67 hn (keyOf_mk hk) (d := .held v) (ps := []) rfl
  have hf := Fr.turned hg
  have hS : ∀ j, j = b → j < w.heap.size → ∃ es clock, w.heap[j]? = some (.map es clock) := fun j e _ => by subst e; exact hb
  have hsz : Maps.size (D.put (keyL k) (.held v)) = if (F k).isSome = true then n else n + 1 := by
    rw [size_put (ho.tidy strK), (hF k hk).1, hs]
  refine ⟨w', hrun, ⟨_, hsz ▸ own_tight ho', hsz, fun x hx => ?_⟩, hf⟩
  by_cases e : x = k
  · subst e
    refine ⟨by rw [has_put_same ho.isMap (keyL_key x)]; simp [upd], fun d' hd' => ?_⟩
    have : d' = d := by simpa [upd] using hd'.symm
    subst this
    exact ⟨v, fun zd => atKey_put_same ho.isMap (keyL_key x) _ zd, hv.fr hf hS⟩
  · have hne : keyL x ≠ keyL k := fun h => e (keyL_inj h)
    refine ⟨by rw [has_put_other hne, (hF x hx).1]; simp [upd, e], fun d' hd' => ?_⟩
    have hd : F x = some d' := by simpa [upd, e] using hd'
    obtain ⟨u, hu, hh⟩ := (hF x hx).2 d' hd
    exact ⟨u, fun zd => by rw [atKey_put_other hne]; exact hu zd, hh.fr hf hS⟩

theorem MapAt.drop {w : World} {b n : Nat} {F : ByteArray → Option DefV} (h : MapAt w b n F) {k : ByteArray} (hk : k.size ≤ maxLen) (ty : TypeId) :
    ∃ w', (Builtin.delete_ #[67, 9] ty #[.map (some b), .string k]).run Tryd.prog w = .ok (.tuple #[]) w' ∧ MapAt w' b (if (F k).isSome = true then n - 1 else n) (del F k) ∧ Fr (fun k => k = b) w w' := by
  have hb := h.isMapBlock
  obtain ⟨D, ho, hs, hF⟩ := h
  obtain ⟨w', hrun, ho', ht⟩ := ho.drop strK Tryd.underlying67 (keyOf_mk hk) ty
  have hf := Fr.turned ht.grown
  have hS : ∀ j, j = b → j < w.heap.size → ∃ es clock, w.heap[j]? = some (.map es clock) := fun j e _ => by subst e; exact hb
  have hsz : Maps.size (D.del (keyL k)) = if (F k).isSome = true then n - 1 else n := by
    have h1 := size_del (k := keyL k) (ho.tidy strK)
    rw [(hF k hk).1, hs] at h1
    split <;> rename_i h2
    · rw [if_pos h2] at h1; omega
    · rw [if_neg h2] at h1; omega
  refine ⟨w', hrun, ⟨_, hsz ▸ own_tight ho', hsz, fun x hx => ?_⟩, hf⟩
  by_cases e : x = k
  · subst e
    refine ⟨by rw [has_del_same]; simp [del], fun d' hd' => ?_⟩
    simp [del] at hd'
  · have hne : keyL x ≠ keyL k := fun h => e (keyL_inj h)
    refine ⟨by rw [has_del_other hne, (hF x hx).1]; simp [del, e], fun d' hd' => ?_⟩
    have hd : F x = some d' := by simpa [del, e] using hd'
    obtain ⟨u, hu, hh⟩ := (hF x hx).2 d' hd
    exact ⟨u, fun zd => by rw [atKey_del_other hne]; exact hu zd, hh.fr hf hS⟩

theorem zero_def (w : World) : (zeroValue 31).run Tryd.prog w = .ok (.agg #[.int .i64 0, .string ⟨#[]⟩, .string ⟨#[]⟩, .slice none 0 0, .string ⟨#[]⟩, .string ⟨#[]⟩]) w := by kernel_rfl
def zeroDV : DefV := ⟨0, ⟨#[]⟩, ⟨#[]⟩, [], ⟨#[]⟩, ⟨#[]⟩⟩

/-- a map that is read: nil, or a block -/
def SrcMap (w : World) (m : Option Nat) (n : Nat) (F : ByteArray → Option DefV) : Prop :=
  match m with
  | none => n = 0 ∧ ∀ k, F k = none
  | some b => MapAt w b n F
theorem SrcMap.below {w w' : World} {m : Option Nat} {n : Nat} {F : ByteArray → Option DefV} (h : SrcMap w m n F) (hb : Below w.heap.size w w') : SrcMap w' m n F := by
  cases m with
  | none => exact h
  | some b => exact MapAt.below h hb

/-- 'v, ok := m[k]': a look-up's run -/
def LookAt (w : World) (m : Option Nat) (F : ByteArray → Option DefV) (k : ByteArray) (v : Value) : Prop :=
  (Instr.lookup 67 (.map m) (.string k) true).run Tryd.prog w = .ok (.tuple #[v, .bool (F k).isSome]) w
theorem SrcMap.look {w : World} {m : Option Nat} {n : Nat} {F : ByteArray → Option DefV} (h : SrcMap w m n F) {k : ByteArray} (hk : k.size ≤ maxLen) :
    ∃ d A c, LookAt w m F k (dVal d A c) ∧ d.vars.length ≤ c ∧ Kd.string.C w A d.vars.length d.vars ∧ (∀ d', F k = some d' → d = d') ∧ (F k = none → d = zeroDV) := by
  cases m with
  | none =>
    refine ⟨zeroDV, none, 0, ?_, Nat.le_refl _, Kd.C_nil Kd.string w, fun d' hd' => ?_, fun _ => rfl⟩
    · have := Maps.look_nil (w := w) true strK Tryd.underlying67 (zero_def w) (keyOf_mk hk)
      unfold LookAt
      rw [h.2 k]
      exact this
    · rw [h.2 k] at hd'
      cases hd'
  | some b =>
    obtain ⟨D, ho, hs, hF⟩ := h
    obtain ⟨v, ps, hrun, hv⟩ := ho.look_ok strK Tryd.underlying67 (zero_def w) (zd := .held (dVal zeroDV none 0)) (zp := []) rfl (keyOf_mk hk)
    rw [(hF k hk).1] at hrun
    have hv' : DataW.held v = D.atKey (keyL k) (.held (dVal zeroDV none 0)) := congrArg Prod.fst (Option.some.inj hv)
    cases hk' : F k with
    | none =>
      have hz : D.atKey (keyL k) (.held (dVal zeroDV none 0)) = .held (dVal zeroDV none 0) := atKey_of_not_has (by rw [(hF k hk).1, hk']; rfl) _
      rw [hz] at hv'
      injection hv' with hv'
      subst hv'
      exact ⟨zeroDV, none, 0, hrun, Nat.le_refl _, Kd.C_nil Kd.string w, (fun d' h => nomatch h), fun _ => rfl⟩
    | some d =>
      obtain ⟨u, hu, A, c, rfl, hc, hC⟩ := (hF k hk).2 d hk'
      rw [hu] at hv'
      injection hv' with hv'
      subst hv'
      exact ⟨d, A, c, hrun, hc, hC, fun d' h => Option.some.inj h, fun h => nomatch h⟩
theorem SrcMap.len {w : World} {m : Option Nat} {n : Nat} {F : ByteArray → Option DefV} (h : SrcMap w m n F) (ty : TypeId) : (Builtin.len_ #[67] ty #[.map m]).run Tryd.prog w = .ok (.int .i64 n) w := by
  cases m with
  | none => obtain ⟨rfl, _⟩ := h; exact Maps.len_nil Tryd.underlying67 ty
  | some b =>
    obtain ⟨D, ho, hs, _⟩ := h
    have := ho.len (t := 67) Tryd.underlying67 ty
    rw [hs] at this
    exact this

/-! ### as many entries where the keys are the same -/
def bareE (p : Lit × DataW Value) : Lit × DataW Value := (p.1, .nil)
def bare (D : DataW Value) : DataW Value := match D with | .map es => .map (es.map bareE) | d => d
theorem bare_canon {D : DataW Value} (h : Canon D) : Canon (bare D) := by
  obtain ⟨es, rfl, hp, hk⟩ := h
  refine ⟨es.map bareE, rfl, ?_, fun p hp' => ?_⟩
  · rw [List.pairwise_map]
    exact hp
  · obtain ⟨q, hq, rfl⟩ := List.mem_map.1 hp'
    exact hk q hq
theorem bare_has {D : DataW Value} (h : Canon D) (k : Lit) : Maps.has (bare D) k = Maps.has D k := by
  obtain ⟨es, rfl, hp, hk⟩ := h
  simp only [bare, Maps.has_eq, List.any_map]
  rfl
theorem bare_at {D : DataW Value} (h : Canon D) (k : Lit) (z : DataW Value) (hh : Maps.has D k = true) : (bare D).atKey k z = .nil := by
  obtain ⟨es, rfl, hp, hk⟩ := h
  simp only [bare, DataW.atKey, List.find?_map]
  rw [Maps.has_eq] at hh
  have he : (fun p : Lit × DataW Value => p.1.sameKey k) ∘ bareE = fun p => p.1.sameKey k := rfl
  rw [he]
  cases hf : es.find? (fun p => p.1.sameKey k) with
  | none =>
    obtain ⟨p, hp1, hp2⟩ := List.any_eq_true.1 hh
    exact absurd hp2 (by simpa using List.find?_eq_none.1 hf p hp1)
  | some p => rfl
theorem bare_size {D : DataW Value} (h : Canon D) : Maps.size (bare D) = Maps.size D := by
  obtain ⟨es, rfl, hp, hk⟩ := h
  simp [bare, Maps.size]
theorem size_of_has {D1 D2 : DataW Value} (h1 : Canon D1) (h2 : Canon D2) (h : ∀ k, Maps.has D1 k = Maps.has D2 k) : Maps.size D1 = Maps.size D2 := by
  have e : bare D1 = bare D2 := Maps.ext (bare_canon h1) (bare_canon h2) (fun k => by rw [bare_has h1, bare_has h2, h]) (fun k z hh => by
    rw [bare_has h1] at hh
    rw [bare_at h1 k z hh, bare_at h2 k z (by rw [← h]; exact hh)])
  rw [← bare_size h1, ← bare_size h2, e]
theorem has_keys {w : World} {b n : Nat} {D : DataW Value} (h : w.ownsMap Tryd.prog 9 RV b n D) {kl : Lit} (hh : Maps.has D kl = true) : ∃ k : ByteArray, kl = keyL k ∧ k.size ≤ maxLen := by
  obtain ⟨es, clock, hb, F, hs, rfl⟩ := h
  rw [Maps.has_eq] at hh
  obtain ⟨p, hp1, hp2⟩ := List.any_eq_true.1 hh
  have hp3 : p ∈ es.toList.map (WideElems.rg Tryd.prog 9 RV) := mem_sorted.1 hp1
  obtain ⟨v, hv⟩ := fit_keys F p hp3
  obtain ⟨k, rfl, hk, hsz⟩ := keyOf_inv hv
  refine ⟨k, ?_, hsz⟩
  rw [hk] at hp2
  unfold keyL at hp2 ⊢
  cases kl <;> simp [Lit.sameKey] at hp2 ⊢
  exact hp2.symm
theorem MapAt.size_eq {w1 w2 : World} {b1 b2 n1 n2 : Nat} {F : ByteArray → Option DefV} (h1 : MapAt w1 b1 n1 F) (h2 : MapAt w2 b2 n2 F) : n1 = n2 := by
  obtain ⟨D1, o1, s1, f1⟩ := h1
  obtain ⟨D2, o2, s2, f2⟩ := h2
  have hall : ∀ (k : Lit), Maps.has D1 k = Maps.has D2 k := by
    intro kl
    cases e1 : Maps.has D1 kl with
    | true =>
      obtain ⟨k, rfl, hk⟩ := has_keys o1 e1
      rw [(f2 k hk).1, ← (f1 k hk).1, e1]
    | false =>
      cases e2 : Maps.has D2 kl with
      | false => rfl
      | true =>
        obtain ⟨k, rfl, hk⟩ := has_keys o2 e2
        rw [(f1 k hk).1, ← (f2 k hk).1, e2] at e1
        exact e1.symm
  rw [← s1, ← s2]
  exact size_of_has (o1.canon strK) (o2.canon strK) hall
end Go.Proofs.YtoiaancehakiiaaDoor.Q
/- The walks of snap's small functions: clone, all, Len; and of maps.Copy into an empty map. -/
namespace Go.Proofs.YtoiaancehakiiaaDoor.Q
open Go.RowKit Go.Maps Go.Proofs.YtoiaancehakiiaaDoor.Plain Go.Proofs.YtoiaancehakiiaaDoorW.PrintWords

def SClonePost (w : World) (l : List ByteArray) (e : Ending) (w' : World) : Prop := ∃ A c, e = .returned (.slice A l.length c) ∧ l.length ≤ c ∧ Kd.string.C w' A l.length l ∧ (∀ ad, A = some ad → w.heap.size ≤ ad.block) ∧ Below w.heap.size w w'
theorem sclone_calls (A : Option Addr) (c : Nat) (l : List ByteArray) (w : World) (hC : Kd.string.C w A l.length l) (hbig : l.length ≤ 1000000) :
    Calls Tryd.prog 64 #[.slice A l.length c] w (SClonePost w l) := by
  cases A with
  | none =>
    have h0 : l = [] := by
      by_cases h : 0 < l.length
      · obtain ⟨ad, e, _⟩ := hC.2.2 h
        cases e
      · exact List.length_eq_zero_iff.1 (by omega)
    subst h0
    refine (Tryd.slices_Clone_string_nil 0 c w).mono ?_
    rintro e w' ⟨rfl, rfl⟩
    exact ⟨none, 0, rfl, Nat.le_refl _, Kd.C_nil _ _, (fun _ h => nomatch h), Below.refl _ _⟩
  | some a =>
    by_cases h0 : 0 < l.length
    · have hr := Kd.reads_of_C (enc := Value.string) (d := ByteArray.empty) (h1 := fun _ => rfl) hC
      obtain ⟨ad, e, hcell⟩ := hr.2.2 h0
      injection e with e
      subst e
      obtain ⟨b, off, spot⟩ := a
      have hs : spot = none := by
        have h := hcell 0 h0
        cases spot with
        | none => rfl
        | some s =>
          exfalso
          simp only [Addr.add, World.cell?] at h
          split at h
          · simp at h
          · cases h
      subst hs
      have hcells : ∀ j, j < l.length → w.cell? ⟨b, off + j, none⟩ = some (.string (l.getD j ByteArray.empty)) := by
        intro j hj
        have h := hcell j hj
        by_cases e : j = 0
        · subst e; simpa [Addr.add] using h
        · simpa [Addr.add, e] using h
      refine (Tryd.slices_Clone_string b off l.length c l w (Nat.le_refl _) (by omega) hcells).mono ?_
      rintro e w' ⟨v', rfl, hown, hne, hb⟩
      rw [List.take_length] at hown
      have hR : Kd.R Kd.string 9 w' w.heap.size (fun _ => True) v' l := Kd.R_of_own (by exact hown) (fun _ _ => trivial)
      obtain ⟨A', c', rfl, hc', hC'⟩ := Kd.R_reads hR
      exact ⟨A', c', rfl, hc', hC', (fun ad ha => Kd.R_base hR ad.block (by subst ha; rfl)), hb⟩
    · have h1 : l = [] := List.length_eq_zero_iff.1 (by omega)
      subst h1
      refine (Tryd.slices_Clone_string_zero a c w).mono ?_
      rintro e w' ⟨v', rfl, hown, hne, hb⟩
      have hR : Kd.R Kd.string 9 w' w.heap.size (fun _ => True) v' ([] : List ByteArray) := Kd.R_of_own (by exact hown) (fun _ _ => trivial)
      obtain ⟨A', c', rfl, hc', hC'⟩ := Kd.R_reads hR
      exact ⟨A', c', rfl, hc', hC', (fun ad ha => Kd.R_base hR ad.block (by subst ha; rfl)), hb⟩

theorem alloc_second (w : World) (o o' : Obj) : ((w.alloc o).alloc o').heap[w.heap.size + 1]? = some o' := by
  have := heap_alloc_new (w.alloc o) o'
  rw [World.size_alloc] at this
  exact this
theorem Fr.below_two (w : World) (o o' : Obj) {w1 : World} (h : Below ((w.alloc o).alloc o').heap.size ((w.alloc o).alloc o') w1) : Below w.heap.size w w1 :=
  below_then (below_alloc (below_alloc (Below.refl _ w) o) o') (by rw [World.size_alloc, World.size_alloc]; omega) h

def DClonePost (w : World) (d : DefV) (e : Ending) (w' : World) : Prop := ∃ A c, e = .returned (dVal d A c) ∧ d.vars.length ≤ c ∧ Kd.string.C w' A d.vars.length d.vars ∧ Below w.heap.size w w'
set_option maxRecDepth 100000 in
theorem dclone_calls (d : DefV) (A : Option Addr) (c : Nat) (w : World) (hC : Kd.string.C w A d.vars.length d.vars) (hbig : d.vars.length ≤ 1000000) :
    Calls Tryd.prog 40 #[dVal d A c] w (DClonePost w d) := by
  have hcl := Lib.hid (fun W (h : Kd.string.C W A d.vars.length d.vars) => sclone_calls A c d.vars W h hbig)
  have HC := Lib.hid hC
  clear hC
  go_enter Tryd.func40, Tryd.ntmps40
  go_wp2_with (go_at_call 64; refine (hcl.out _ (Kd.C_alloc (Kd.C_alloc HC.out _) _)).mono ?_; rintro e w1 ⟨A1, c1, rfl, hc1, hC1, hA1, hb1⟩; have HC1 := Lib.hid hC1; have HA1 := Lib.hid hA1; clear hA1; have HP1 := Lib.hid ((hb1.block w.heap.size (by rw [World.size_alloc, World.size_alloc]; omega)).trans (blk_alloc (heap_alloc_new w _) _)); have HQ1 := Lib.hid ((hb1.block (w.heap.size + 1) (by rw [World.size_alloc, World.size_alloc]; omega)).trans (alloc_second w _ _)); have HB1 := Lib.hid (Fr.below_two w _ _ hb1); have hsz1 : w.heap.size + 1 < w1.heap.size := blk_lt HQ1.out; clear hC1 hb1; have p0 := blk_cell HP1.out 0; have p1 := blk_cell HP1.out 1; have p2 := blk_cell HP1.out 2; have p3 := blk_cell HP1.out 3; have p4 := blk_cell HP1.out 4; have p5 := blk_cell HP1.out 5; have zp := blk_frozen HP1.out 3; have q0 := blk_cell HQ1.out 0; have q1 := blk_cell HQ1.out 1; have q2 := blk_cell HQ1.out 2; have q3 := blk_cell HQ1.out 3; have q4 := blk_cell HQ1.out 4; have q5 := blk_cell HQ1.out 5; have zq0 := blk_frozen HQ1.out 0; have zq1 := blk_frozen HQ1.out 1; have zq2 := blk_frozen HQ1.out 2; have zq3 := blk_frozen HQ1.out 3; have zq4 := blk_frozen HQ1.out 4; have zq5 := blk_frozen HQ1.out 5)
  have hf : Fr (fun k => k = w.heap.size ∨ k = w.heap.size + 1) w1 (((((((w1.setCell ⟨w.heap.size, 3, none⟩ (.slice A1 d.vars.length c1)).setCell ⟨w.heap.size + 1, 0, none⟩ (.int .i64 d.kind)).setCell ⟨w.heap.size + 1, 1, none⟩ (.string d.cls)).setCell ⟨w.heap.size + 1, 2, none⟩ (.string d.sup)).setCell ⟨w.heap.size + 1, 3, none⟩ (.slice A1 d.vars.length c1)).setCell ⟨w.heap.size + 1, 4, none⟩ (.string d.sel)).setCell ⟨w.heap.size + 1, 5, none⟩ (.string d.src)) :=
    ((((((Fr.set_ (S := fun k => k = w.heap.size ∨ k = w.heap.size + 1) w1 ⟨w.heap.size, 3, none⟩ _ (.inl rfl)).setCell ⟨w.heap.size + 1, 0, none⟩ _ (.inr rfl)).setCell ⟨w.heap.size + 1, 1, none⟩ _ (.inr rfl)).setCell ⟨w.heap.size + 1, 2, none⟩ _ (.inr rfl)).setCell ⟨w.heap.size + 1, 3, none⟩ _ (.inr rfl)).setCell ⟨w.heap.size + 1, 4, none⟩ _ (.inr rfl)).setCell ⟨w.heap.size + 1, 5, none⟩ _ (.inr rfl)
  have hq : (((((((w1.setCell ⟨w.heap.size, 3, none⟩ (.slice A1 d.vars.length c1)).setCell ⟨w.heap.size + 1, 0, none⟩ (.int .i64 d.kind)).setCell ⟨w.heap.size + 1, 1, none⟩ (.string d.cls)).setCell ⟨w.heap.size + 1, 2, none⟩ (.string d.sup)).setCell ⟨w.heap.size + 1, 3, none⟩ (.slice A1 d.vars.length c1)).setCell ⟨w.heap.size + 1, 4, none⟩ (.string d.sel)).setCell ⟨w.heap.size + 1, 5, none⟩ (.string d.src)).heap[w.heap.size + 1]? = some (.cells #[.int .i64 d.kind, .string d.cls, .string d.sup, .slice A1 d.vars.length c1, .string d.sel, .string d.src] 31 (0, 0)) := by
    have := blk_set (blk_set (blk_set (blk_set (blk_set (blk_set (blk_far HQ1.out (p := ⟨w.heap.size, 3, none⟩) (by simp) (.slice A1 d.vars.length c1)) 0 (.int .i64 d.kind)) 1 (.string d.cls)) 2 (.string d.sup)) 3 (.slice A1 d.vars.length c1)) 4 (.string d.sel)) 5 (.string d.src)
    simpa using this
  clear p0 p1 p2 p3 p4 p5 q0 q1 q2 q3 q4 q5 zp zq0 zq1 zq2 zq3 zq4 zq5
  generalize (((((((w1.setCell ⟨w.heap.size, 3, none⟩ (.slice A1 d.vars.length c1)).setCell ⟨w.heap.size + 1, 0, none⟩ (.int .i64 d.kind)).setCell ⟨w.heap.size + 1, 1, none⟩ (.string d.cls)).setCell ⟨w.heap.size + 1, 2, none⟩ (.string d.sup)).setCell ⟨w.heap.size + 1, 3, none⟩ (.slice A1 d.vars.length c1)).setCell ⟨w.heap.size + 1, 4, none⟩ (.string d.sel)).setCell ⟨w.heap.size + 1, 5, none⟩ (.string d.src)) = w2 at *
  have q0 := blk_cell hq 0
  have q1 := blk_cell hq 1
  have q2 := blk_cell hq 2
  have q3 := blk_cell hq 3
  have q4 := blk_cell hq 4
  have q5 := blk_cell hq 5
  refine bodyPost_ret (v := .agg #[.int .i64 d.kind, .string d.cls, .string d.sup, .slice A1 d.vars.length c1, .string d.sel, .string d.src]) (by simp [results, Tryd.results40, go_sem, q0, q1, q2, q3, q4, q5]) rfl ⟨A1, c1, rfl, hc1, hf.string HC1.out (fun ad ha _ hk => ?_), HB1.out.trans (hf.belowB (B := w.heap.size) (fun k hk => by omega) HB1.out.size)⟩
  have := HA1.out ad ha
  rw [World.size_alloc, World.size_alloc] at this
  omega

theorem snap_all (w : World) (p : Option Addr) (m : Option Nat) (h : (p = none ∧ m = none) ∨ ∃ g, p = some ⟨g, 0, none⟩ ∧ w.heap[g]? = some (.cells #[.map m] 69 (0, 0))) :
    Calls Tryd.prog 48 #[.pointer p] w fun e w' => e = .returned (.map m) ∧ w = w' := by
  rcases h with ⟨rfl, rfl⟩ | ⟨g, rfl, hg⟩
  · go_enter Tryd.func48, Tryd.ntmps48
    go_wp2
    go_ret
    exact ⟨rfl, rfl⟩
  · have h0 : w.cell? ⟨g, 0, none⟩ = some (.map m) := (blk_cell hg 0).trans rfl
    clear hg
    go_enter Tryd.func48, Tryd.ntmps48
    go_wp2
    go_ret
    exact ⟨rfl, rfl⟩
def SnapM (w : World) (p : Option Addr) (m : Option Nat) : Prop := (p = none ∧ m = none) ∨ ∃ g, p = some ⟨g, 0, none⟩ ∧ w.heap[g]? = some (.cells #[.map m] 69 (0, 0))
theorem SnapM.below {w w' : World} {p : Option Addr} {m : Option Nat} (h : SnapM w p m) (hb : Below w.heap.size w w') : SnapM w' p m := by
  rcases h with h | ⟨g, e, hg⟩
  · exact .inl h
  · exact .inr ⟨g, e, (hb.block g (blk_lt hg)).trans hg⟩
theorem all_calls (w : World) (p : Option Addr) (m : Option Nat) (h : SnapM w p m) : Calls Tryd.prog 48 #[.pointer p] w fun e w' => e = .returned (.map m) ∧ w = w' := snap_all w p m h
theorem len_calls (w : World) (p : Option Addr) (m : Option Nat) (n : Nat) (F : ByteArray → Option DefV) (h : SnapM w p m) (hs : SrcMap w m n F) :
    Calls Tryd.prog 38 #[.pointer p] w fun e w' => e = .returned (.int .i64 n) ∧ w = w' := by
  have hall := Lib.hid (all_calls w p m h)
  have hlen := fun ty => hs.len ty
  clear hs h
  go_enter Tryd.func38, Tryd.ntmps38
  go_wp2_with (go_at_call 48; refine hall.out.mono ?_; rintro e w1 ⟨rfl, rfl⟩)
  go_ret
  exact ⟨rfl, rfl⟩

/-- maps.Copy(dst, src), dst empty: src nil, or a map. -/
def CopyPost (w : World) (bd n : Nat) (F : ByteArray → Option DefV) (e : Ending) (w' : World) : Prop := e = .returned (.tuple #[]) ∧ MapAt w' bd n F ∧ Fr (fun k => k = bd) w w'
set_option maxHeartbeats 4000000 in
set_option maxRecDepth 100000 in
theorem copy_calls (w : World) (bd bs n : Nat) (F : ByteArray → Option DefV) (hd : w.ownsMap Tryd.prog 9 RV bd 0 (.map [])) (hs : MapAt w bs n F) (hne : bd ≠ bs) (hroom : n ≤ 1000000) :
    Calls Tryd.prog 77 #[.map (some bd), .map (some bs)] w (CopyPost w bd n F) := by
  have hmF := hs
  obtain ⟨D, hs, hsz, hF⟩ := hs
  have hbd := hd.lt
  have hbs := hs.lt
  have hbm := own_isMapBlock hd
  have HF := Lib.hid hF
  have HMF := Lib.hid hmF
  have HSZ := Lib.hid hsz
  have HBM := Lib.hid hbm
  clear hF hmF hbm
  have hle : Maps.size D ≤ 1000000 := by omega
  clear hsz
  go_enter Tryd.func77, Tryd.ntmps77
  go_wp2_with (first
    | (at_range; refine wpList_range_own _ rfl _ 67 rfl 9 31 strK Tryd.underlying67 RV bs n _ rfl hs ?_; intro w0 hrg0 hg0 hs0)
    | go_in)
  go_frame
  go_loopw [8] (fun _ wr => ∃ (left : Lit → Bool) (cnt : Nat) (Dout : DataW Value), wr.ranges Tryd.prog 9 RV bs w.heap.size n D left cnt ∧ cnt ≤ Maps.size D ∧
      wr.ownsMap Tryd.prog 9 RV bd (Maps.size D - cnt) Dout ∧ Agree Dout D left ∧ w.grownBy wr (some bd))
    (fun _ wr => wr.rangeLeft bs w.heap.size)
  case atStart =>
    exact ⟨_, _, .map [], hrg0, Nat.le_refl _, (hd.kept hg0 (by simp)).mono (by omega), agree_start D, hg0.but _⟩
  case round =>
    obtain ⟨left, cnt, Dout, hrg, hcs, hout, hM, hgw⟩ := hrel
    go_wp2_with (first
      | (at_next; refine wpList_next_ranges _ rfl _ rfl 9 strK RV id id (fun key _ _ => ⟨key, rfl⟩) (fun v _ _ => ⟨v, rfl⟩) bs w.heap.size n _ _ _ rfl hrg ?_ ?_)
      | go_in)
    · intro hc0 hl0
      go_wp2
      go_end0
      subst hc0
      have e := agree_end hM hl0 (hout.canon strK) (hs.canon strK)
      subst e
      have hf := Fr.turned hgw
      have hS : ∀ j, j = bd → j < w.heap.size → ∃ es clock, w.heap[j]? = some (.map es clock) := fun j e _ => by subst e; exact HBM.out
      refine ⟨rfl, ⟨Dout, by have := hout; rw [Nat.sub_zero, HSZ.out] at this; exact this, HSZ.out, fun k hk => ⟨(HF.out k hk).1, fun d hd' => ?_⟩⟩, hf⟩
      obtain ⟨v, hv, hh⟩ := (HF.out k hk).2 d hd'
      exact ⟨v, hv, hh.fr hf hS⟩
    · intro x c kl yd yp w1 cnt1 hkey hlx hv hat hrg1 hlt hg1 hs1 hen
      have hout1 := hout.kept hg1 (fun e => by have := Option.some.inj e; omega)
      obtain ⟨k, hx, rfl, hksz⟩ := keyOf_inv hkey
      have hx : x = .string k := hx
      subst hx
      obtain rfl : DataW.held c = yd := congrArg Prod.fst (Option.some.inj hv)
      have hhas : Maps.has D (keyL k) = true := has_true_of_atKey hat
      obtain ⟨d, A, cc, hcv⟩ : ∃ d A cc, c = dVal d A cc := by
        have h1 := (HF.out k hksz).1
        rw [hhas] at h1
        obtain ⟨d, hd'⟩ := Option.isSome_iff_exists.1 h1.symm
        obtain ⟨v, hv', A, cc, rfl, _⟩ := (HF.out k hksz).2 d hd'
        have h2 := hat .nil
        rw [hv'] at h2
        injection h2 with h2
        exact ⟨d, A, cc, h2.symm⟩
      have hcv : c = .agg #[.int .i64 d.kind, .string d.cls, .string d.sup, .slice A d.vars.length cc, .string d.sel, .string d.src] := hcv
      subst hcv
      have hkey := Lib.hid hkey
      have hat := Lib.hid hat
      clear hhas hv
      go_wp2_with (first
        | (at_mapUpdate; refine wpList_mapUpdate_own _ rfl _ _ _ 67 rfl 9 31 strK Tryd.underlying67 RV bd _ _ rfl (hout1.alloc _) (by unfold maxLen; omega) _ _ _ rfl rfl hkey.out _ _ rfl ?_; intro w2 hout2 hg2; go_frame)
        | go_in)
      refine ⟨⟨_, cnt1, _, (hrg1.alloc _).kept hg2 (fun e => hne (Option.some.inj e).symm) (fun e => by have := Option.some.inj e; omega), by omega, hout2.mono (by omega), agree_step hM hout.isMap (strK.key hkey.out) hat.out, ((hgw.andThen hg1 (fun j hj => .inl (by cases hj; exact Nat.le_refl _))).andThen (World.grownBy_alloc w1 _ none) (fun j hj => nomatch hj)).andThen hg2 (fun j hj => .inr hj)⟩, ?_⟩
      rw [((hrg1.alloc _).kept hg2 (fun e => hne (Option.some.inj e).symm) (fun e => by have := Option.some.inj e; omega)).left_eq, hrg.left_eq]
      exact hlt
end Go.Proofs.YtoiaancehakiiaaDoor.Q
/- The walks of Snap.copied, Put and Drop. -/
namespace Go.Proofs.YtoiaancehakiiaaDoor.Q
open Go.RowKit Go.Maps Go.Proofs.YtoiaancehakiiaaDoor.Plain Go.Proofs.YtoiaancehakiiaaDoorW.PrintWords

set_option maxHeartbeats 2000000 in
theorem copynil_calls (w : World) (pd : Option Nat) :
    Calls Tryd.prog 77 #[.map pd, .map none] w fun e w' => e = .returned (.tuple #[]) ∧ w' = w.alloc (.mapIter none 0 #[] 0) := by
  have hrg := run_range_nilMap (P := Tryd.prog) w 67 _ _ Tryd.underlying67
  have hnx : ∀ ty, (Instr.next (.pointer (some ⟨w.heap.size, 0, none⟩)) false ty).run Tryd.prog (w.alloc (.mapIter none 0 #[] 0)) = _ := fun ty => run_next_nilMap _ ty 0 0 #[]
  go_enter Tryd.func77, Tryd.ntmps77
  go_wp2
  refine wp_loop_rounds 1 ?_
  rw [rounds_succ]
  go_wp2
  go_end0
  exact ⟨rfl, rfl⟩

theorem copym_calls (w : World) (bd n : Nat) (m : Option Nat) (F : ByteArray → Option DefV) (hd : w.ownsMap Tryd.prog 9 RV bd 0 (.map [])) (hs : SrcMap w m n F) (hne : m ≠ some bd) (hroom : n ≤ 1000000) :
    Calls Tryd.prog 77 #[.map (some bd), .map m] w (CopyPost w bd n F) := by
  cases m with
  | none =>
    obtain ⟨rfl, hF⟩ := hs
    refine (copynil_calls w (some bd)).mono ?_
    rintro e w' ⟨rfl, rfl⟩
    refine ⟨rfl, ⟨.map [], hd.alloc _, rfl, fun k _ => ⟨by rw [hF k]; rfl, fun d hd => ?_⟩⟩, (Fr.refl _ _).alloc _⟩
    rw [hF k] at hd
    cases hd
  | some bs => exact copy_calls w bd bs n F hd hs (fun e => hne (by rw [e])) hroom

def CopiedPost (w : World) (n : Nat) (F : ByteArray → Option DefV) (e : Ending) (w' : World) : Prop :=
  ∃ g b, e = .returned (.pointer (some ⟨g, 0, none⟩)) ∧ w'.heap[g]? = some (.cells #[.map (some b)] 69 (0, 0)) ∧ MapAt w' b n F ∧ w.heap.size ≤ b ∧ w.heap.size ≤ g ∧ Below w.heap.size w w'
set_option maxHeartbeats 2000000 in
theorem copied_calls (w : World) (p : Option Addr) (m : Option Nat) (n : Nat) (F : ByteArray → Option DefV) (hp : SnapM w p m) (hs : SrcMap w m n F) (hroom : n ≤ 1000000) :
    Calls Tryd.prog 63 #[.pointer p] w (CopiedPost w n F) := by
  have hall : Hid (∀ W, Below w.heap.size w W → Calls Tryd.prog 48 #[.pointer p] W fun e w' => e = .returned (.map m) ∧ W = w') := Lib.hid (fun W hb => all_calls W p m (hp.below hb))
  have hcp : Hid (∀ W bd, Below w.heap.size w W → W.ownsMap Tryd.prog 9 RV bd 0 (.map []) → w.heap.size ≤ bd → Calls Tryd.prog 77 #[.map (some bd), .map m] W (CopyPost W bd n F)) :=
    Lib.hid (fun W bd hb ho hle => copym_calls W bd n m F ho (hs.below hb) (by
      intro e
      subst e
      have h2 : MapAt w bd n F := hs
      have := h2.lt
      omega) hroom)
  clear hp hs
  have hmm := @run_makeMap Tryd.prog
  go_enter Tryd.func63, Tryd.ntmps63
  go_wp2
  have hB0 := Lib.hid (below_alloc (below_alloc (Below.refl _ w) (.map #[] 0)) (.cells #[.map (some w.heap.size)] 69))
  have hG0 := Lib.hid (alloc_second w (.map #[] 0) (.cells #[.map (some w.heap.size)] 69))
  have hM0 := Lib.hid ((World.ownsMap_made w Tryd.prog 9 RV).alloc (.cells #[.map (some w.heap.size)] 69))
  clear hmm
  generalize (w.alloc (.map #[] 0)).alloc (.cells #[.map (some w.heap.size)] 69) = w1 at *
  have HS0 : Hid (w1.drew.cell? ⟨w.heap.size + 1, 0, none⟩ = some (.map (some w.heap.size))) := Lib.hid ((blk_cell hG0.out 0).trans rfl)
  have HB1 := Lib.hid (below_drew hB0.out)
  have HM1 := Lib.hid hM0.out.drew
  go_region_held3 (fun W => W.cell? ⟨w.heap.size + 1, 0, none⟩ = some (.map (some w.heap.size))) (first | exact HS2.out | exact HS0.out)
    (first
    | (go_at_call 48; refine (hall.out _ HB1.out).mono ?_; rintro _ _ ⟨rfl, rfl⟩)
    | (go_at_call 77; refine (hcp.out _ _ HB1.out HM1.out (Nat.le_refl _)).mono ?_; rintro e2 w2 ⟨rfl, hm2, hf2⟩; have HM2 := Lib.hid hm2; have HF2 := Lib.hid hf2; have HG2 := Lib.hid (hf2.heap hG0.out (by omega)); have HS2 := Lib.hid ((blk_cell HG2.out 0).trans rfl : w2.cell? ⟨w.heap.size + 1, 0, none⟩ = some (.map (some w.heap.size))); clear hm2 hf2))
  go_wp2
  go_ret
  exact ⟨w.heap.size + 1, w.heap.size, rfl, HG2.out, HM2.out, Nat.le_refl _, by omega, HB1.out.trans (HF2.out.belowB (B := w.heap.size) (fun k hk => by omega) HB1.out.size)⟩

/-- small enough for the code's own bounds -/
structure Bd (d : DefV) : Prop where
  sel : d.sel.size < 4294967281
  cls : d.cls.size ≤ 4294967
  vars : d.vars.length ≤ 1000000
theorem Bd.key {d : DefV} (h : Bd d) : (keyD d).size ≤ maxLen := by
  have h1 := h.sel
  have h2 := h.cls
  have ha : arrowB.size = 2 := rfl
  unfold keyD maxLen
  split
  · split
    · omega
    · simp only [ByteArray.size_append]; omega
  · exact Nat.zero_le _
theorem defkey_calls (d : DefV) (A : Option Addr) (c : Nat) (w : World) (hb : Bd d) (hC : Kd.string.C w A d.vars.length d.vars) (hc : d.vars.length ≤ c) :
    Calls Tryd.prog 29 #[.agg #[.int .i64 d.kind, .string d.cls, .string d.sup, .slice A d.vars.length c, .string d.sel, .string d.src]] w fun e w' => e = .returned (.string (keyD d)) ∧ Below w.heap.size w w' :=
  def_Key.calls 61 d.kind d.cls d.sup A c d.vars d.sel d.src (keyD d) w hC hc (key_ok 61 d hb.sel (by have := hb.cls; omega) (by decide))

theorem isName_ne {s : ByteArray} (h : isName s.data.toList = true) : s ≠ ByteArray.empty := by
  intro e
  have := isName_pos s h
  rw [e] at this
  exact absurd this (by decide)
theorem right_class {d : DefV} (h : rightD d = true) : isName d.cls.data.toList = true := by
  unfold rightD classN at h
  split at h <;> simp_all
theorem key_ne {d : DefV} (h : rightD d = true) : keyD d ≠ ByteArray.empty := by
  have hn := isName_ne (right_class h)
  unfold keyD
  rw [if_pos h]
  split
  · exact hn
  · intro e
    have h1 : (d.cls ++ arrowB ++ d.sel).size = 0 := by rw [e]; rfl
    simp only [ByteArray.size_append] at h1
    have ha : arrowB.size = 2 := rfl
    omega
theorem key_none {d : DefV} (h : rightD d = false) : keyD d = ByteArray.empty := by
  unfold keyD
  rw [h]
  rfl
end Go.Proofs.YtoiaancehakiiaaDoor.Q
/- The walks of Snap.Put and Drop. -/
namespace Go.Proofs.YtoiaancehakiiaaDoor.Q
open Go.RowKit Go.Maps Go.Proofs.YtoiaancehakiiaaDoor.Plain Go.Proofs.YtoiaancehakiiaaDoorW.PrintWords

theorem put_bad (w : World) (p : Option Addr) (d : DefV) (A : Option Addr) (c : Nat) (hC : Kd.string.C w A d.vars.length d.vars) (hc : d.vars.length ≤ c) (hb : Bd d) (hr : rightD d = false) :
    Calls Tryd.prog 46 #[.pointer p, .agg #[.int .i64 d.kind, .string d.cls, .string d.sup, .slice A d.vars.length c, .string d.sel, .string d.src]] w fun e w' => e = .returned (.tuple #[.pointer none, .int .i64 31]) ∧ Below w.heap.size w w' := by
  have hk : Hid (∀ W, Below w.heap.size w W → Calls Tryd.prog 29 #[.agg #[.int .i64 d.kind, .string d.cls, .string d.sup, .slice A d.vars.length c, .string d.sel, .string d.src]] W fun e w' => e = .returned (.string ⟨#[]⟩) ∧ Below W.heap.size W w') :=
    Lib.hid (fun W hW => by have := defkey_calls d A c W hb (Kd.C_below hC hW) hc; rw [key_none hr] at this; exact this)
  clear hC hb hr
  go_enter Tryd.func46, Tryd.ntmps46
  go_wp2_with (go_at_call 29; refine (hk.out _ (below_alloc (Below.refl _ w) _)).mono ?_; rintro e1 w1 ⟨rfl, hb1⟩; have HB1 := Lib.hid (below_then (below_alloc (Below.refl _ w) _) (by rw [World.size_alloc]; omega) hb1); clear hb1)
  go_ret2
  exact ⟨rfl, HB1.out⟩

theorem map_ne {w : World} {b n g : Nat} {F : ByteArray → Option DefV} {cs : Array Value} {t : TypeId} {fr : Nat × Nat} (h : MapAt w b n F) (hg : w.heap[g]? = some (.cells cs t fr)) : ¬ g = b := by
  intro e
  subst e
  obtain ⟨es, clock, hm⟩ := h.isMapBlock
  rw [hm] at hg
  cases hg
theorem put_s {S : Nat → Prop} {w w' : World} {g b p : Nat} {d : DefV} {A : Option Addr} {c : Nat} (hf : Fr S w w') (hg : w.heap[g]? = some (.cells #[.map (some b)] 69 (0, 0))) (hp : w.heap[p]? = some (.cells #[.int .i64 d.kind, .string d.cls, .string d.sup, .slice A d.vars.length c, .string d.sel, .string d.src] 31 (0, 0))) (hng : ¬ S g) (hnp : ¬ S p) :
    w'.cell? ⟨g, 0, none⟩ = some (.map (some b)) ∧ w'.cell? ⟨p, 0, none⟩ = some (.int .i64 d.kind) ∧ w'.cell? ⟨p, 1, none⟩ = some (.string d.cls) ∧ w'.cell? ⟨p, 2, none⟩ = some (.string d.sup) ∧ w'.cell? ⟨p, 3, none⟩ = some (.slice A d.vars.length c) ∧ w'.cell? ⟨p, 4, none⟩ = some (.string d.sel) ∧ w'.cell? ⟨p, 5, none⟩ = some (.string d.src) :=
  have h1 := hf.heap hg hng
  have h2 := hf.heap hp hnp
  ⟨blk_cell h1 0, blk_cell h2 0, blk_cell h2 1, blk_cell h2 2, blk_cell h2 3, blk_cell h2 4, blk_cell h2 5⟩

def PutPost (w : World) (n : Nat) (F : ByteArray → Option DefV) (d : DefV) (key : ByteArray) (e : Ending) (w' : World) : Prop :=
  ∃ g b, e = .returned (.tuple #[.pointer (some ⟨g, 0, none⟩), .int .i64 0]) ∧ w'.heap[g]? = some (.cells #[.map (some b)] 69 (0, 0)) ∧ MapAt w' b (if (F key).isSome = true then n else n + 1) (upd F key d) ∧ Below w.heap.size w w'

set_option maxHeartbeats 2000000 in
set_option maxRecDepth 100000 in
theorem put_ok (w : World) (p : Option Addr) (m : Option Nat) (n : Nat) (F : ByteArray → Option DefV) (d : DefV) (A : Option Addr) (c : Nat) (hp : SnapM w p m) (hs : SrcMap w m n F) (hC : Kd.string.C w A d.vars.length d.vars) (hc : d.vars.length ≤ c) (hb : Bd d) (hr : rightD d = true) (hroom : n < 500) :
    Calls Tryd.prog 46 #[.pointer p, .agg #[.int .i64 d.kind, .string d.cls, .string d.sup, .slice A d.vars.length c, .string d.sel, .string d.src]] w (PutPost w n F d (keyD d)) := by
  have hall : Hid (∀ W, Below w.heap.size w W → Calls Tryd.prog 48 #[.pointer p] W fun e w' => e = .returned (.map m) ∧ W = w') := Lib.hid (fun W hb => all_calls W p m (hp.below hb))
  have hlen : Hid (∀ W, Below w.heap.size w W → Calls Tryd.prog 38 #[.pointer p] W fun e w' => e = .returned (.int .i64 n) ∧ W = w') := Lib.hid (fun W hb => len_calls W p m n F (hp.below hb) (hs.below hb))
  have hcop : Hid (∀ W, Below w.heap.size w W → Calls Tryd.prog 63 #[.pointer p] W (CopiedPost W n F)) := Lib.hid (fun W hb => copied_calls W p m n F (hp.below hb) (hs.below hb) (by omega))
  have hk : Hid (∀ W, Below w.heap.size w W → Calls Tryd.prog 29 #[.agg #[.int .i64 d.kind, .string d.cls, .string d.sup, .slice A d.vars.length c, .string d.sel, .string d.src]] W fun e w' => e = .returned (.string (keyD d)) ∧ Below W.heap.size W w') :=
    Lib.hid (fun W hW => defkey_calls d A c W hb (Kd.C_below hC hW) hc)
  have hcl : Hid (∀ W, Below w.heap.size w W → Calls Tryd.prog 40 #[.agg #[.int .i64 d.kind, .string d.cls, .string d.sup, .slice A d.vars.length c, .string d.sel, .string d.src]] W (DClonePost W d)) := Lib.hid (fun W hW => dclone_calls d A c W (Kd.C_below hC hW) hb.vars)
  have hlook : Hid (∀ W, Below w.heap.size w W → ∃ d' A' c', LookAt W m F (keyD d) (dVal d' A' c')) := Lib.hid (fun W hW => by obtain ⟨d', A', c', h, _⟩ := (hs.below hW).look hb.key; exact ⟨d', A', c', h⟩)
  have hkey := Lib.hid hb.key
  have hne := key_ne hr
  have hnn : ((n : Int) == 500) = false := by rw [beq_eq_false_iff_ne]; omega
  have hke : (keyD d).toList.isEmpty = false := by
    rw [Bool.eq_false_iff, ne_eq, List.isEmpty_iff, tl_nil]
    exact hne
  clear hp hs hC hb hr hne
  have HROOM := Lib.hid hroom
  clear hroom
  generalize keyD d = key at *
  cases hh : (F key).isSome
  all_goals
    have HH := Lib.hid hh
    clear hh
    go_enter Tryd.func46, Tryd.ntmps46
    go_wp2_with (first
    | (go_at_call 29; refine (hk.out _ (below_alloc (Below.refl _ w) _)).mono ?_; rintro e1 w1 ⟨rfl, hb1⟩; have HB1 := Lib.hid (below_then (below_alloc (Below.refl _ w) _) (by rw [World.size_alloc]; omega) hb1); have HP1 := Lib.hid ((hb1.block w.heap.size (by rw [World.size_alloc]; omega)).trans (heap_alloc_new w _)); clear hb1)
    | (go_at_call 48; refine (hall.out _ HB1.out).mono ?_; rintro _ _ ⟨rfl, rfl⟩; obtain ⟨d', A', c', hL⟩ := hlook.out _ HB1.out; have hL : (Instr.lookup 67 (.map m) (.string key) true).run Tryd.prog w1 = .ok (.tuple #[.agg #[.int .i64 d'.kind, .string d'.cls, .string d'.sup, .slice A' d'.vars.length c', .string d'.sel, .string d'.src], .bool (F key).isSome]) w1 := hL; rw [HH.out] at hL)
    | (go_at_call 38; refine (hlen.out _ (below_alloc HB1.out _)).mono ?_; rintro _ _ ⟨rfl, rfl⟩)
    | (go_at_call 63; refine (hcop.out _ (below_alloc HB1.out _)).mono ?_; rintro e2 w2 ⟨g, b, rfl, hg2, hm2, hbl, hgl, hb2⟩; have HP2 := Lib.hid ((hb2.block w.heap.size (Nat.lt_of_lt_of_le (blk_lt HP1.out) (by rw [World.size_alloc]; omega))).trans (blk_alloc HP1.out _)); have HB2 := Lib.hid (below_then (below_alloc HB1.out _) (by rw [World.size_alloc]; have := HB1.out.size; omega) hb2); have HG2 := Lib.hid hg2; have HM2 := Lib.hid hm2; have hbl : w.heap.size ≤ b := Nat.le_trans HB1.out.size (Nat.le_trans (by rw [World.size_alloc]; omega) hbl); have hgl : w.heap.size < g := Nat.lt_of_lt_of_le (blk_lt HP1.out) (Nat.le_trans (by rw [World.size_alloc]; omega) hgl); clear hg2 hm2 hb2))
    clear hL
    have HB3 := Lib.hid (below_drew HB2.out)
    have HM3 := Lib.hid (HM2.out.below (below_drew (Below.refl _ w2)))
    have HS3 := Lib.hid (put_s (Fr.refl (fun _ => False) w2).drew HG2.out HP2.out (fun h => h) (fun h => h))
    go_region_held3 (fun W => W.cell? ⟨g, 0, none⟩ = some (.map (some b)) ∧ W.cell? ⟨w.heap.size, 0, none⟩ = some (.int .i64 d.kind) ∧ W.cell? ⟨w.heap.size, 1, none⟩ = some (.string d.cls) ∧ W.cell? ⟨w.heap.size, 2, none⟩ = some (.string d.sup) ∧ W.cell? ⟨w.heap.size, 3, none⟩ = some (.slice A d.vars.length c) ∧ W.cell? ⟨w.heap.size, 4, none⟩ = some (.string d.sel) ∧ W.cell? ⟨w.heap.size, 5, none⟩ = some (.string d.src)) (first | exact HSu.out | exact HS4.out | exact HS3.out)
      (first
      | (go_at_call 40; refine (hcl.out _ HB3.out).mono ?_; rintro e4 w4 ⟨A4, c4, he4, hc4, hC4, hb4⟩; obtain rfl : e4 = .returned (.agg #[.int .i64 d.kind, .string d.cls, .string d.sup, .slice A4 d.vars.length c4, .string d.sel, .string d.src]) := he4; have hf4 := (Fr.refl (fun k => k = b) w2).drew.step (Fr.of_below (fun k => k = b) hb4); have HS4 := Lib.hid (put_s hf4 HG2.out HP2.out (map_ne HM2.out HG2.out) (map_ne HM2.out HP2.out)); obtain ⟨wu, hrun, hmu, hfu⟩ := (HM3.out.below hb4).put hkey.out (by unfold maxLen; have := HROOM.out; omega) (v := .agg #[.int .i64 d.kind, .string d.cls, .string d.sup, .slice A4 d.vars.length c4, .string d.sel, .string d.src]) ⟨A4, c4, rfl, hc4, hC4⟩; have HSu := Lib.hid (put_s (hf4.step hfu) HG2.out HP2.out (map_ne HM2.out HG2.out) (map_ne HM2.out HP2.out)); have HGu := Lib.hid ((hf4.step hfu).heap HG2.out (map_ne HM2.out HG2.out)); have HMu := Lib.hid hmu; have HFu := Lib.hid hfu; have HB4 := Lib.hid (below_then HB3.out HB3.out.size hb4); clear hmu hfu hb4 hf4 hC4))
    go_wp2
    go_ret2
    exact ⟨g, b, rfl, HGu.out, HMu.out, HB4.out.trans (HFu.out.belowB (B := w.heap.size) (fun k hk => by omega) HB4.out.size)⟩

def dropS (s : Nat × (ByteArray → Option DefV)) (k : ByteArray) : Nat × (ByteArray → Option DefV) := (if (s.2 k).isSome = true then s.1 - 1 else s.1, del s.2 k)
def DropPost (w : World) (n : Nat) (F : ByteArray → Option DefV) (e : Ending) (w' : World) : Prop :=
  ∃ g b, e = .returned (.pointer (some ⟨g, 0, none⟩)) ∧ w'.heap[g]? = some (.cells #[.map (some b)] 69 (0, 0)) ∧ MapAt w' b n F ∧ Below w.heap.size w w'
def DropRel (w : World) (g b : Nat) (ks : List ByteArray) (s0 : Nat × (ByteArray → Option DefV)) (v : Value) (wr : World) : Prop :=
  ∃ k : Nat, k ≤ ks.length ∧ v = .int .i64 k ∧ wr.heap[g]? = some (.cells #[.map (some b)] 69 (0, 0)) ∧ MapAt wr b ((ks.take k).foldl dropS s0).1 ((ks.take k).foldl dropS s0).2 ∧ Below w.heap.size w wr
theorem foldl_snoc (ks : List ByteArray) (k : Nat) (h : k < ks.length) (s0 : Nat × (ByteArray → Option DefV)) : (ks.take (k + 1)).foldl dropS s0 = dropS ((ks.take k).foldl dropS s0) (ks.getD k ByteArray.empty) := by
  have hd : ks.getD k ByteArray.empty = ks[k] := by simp [List.getD_eq_getElem?_getD, h]
  rw [List.take_succ_eq_append_getElem h, List.foldl_append, hd]
  rfl
set_option maxHeartbeats 2000000 in
theorem drop_calls (w : World) (p : Option Addr) (m : Option Nat) (n : Nat) (F : ByteArray → Option DefV) (A : Option Addr) (c : Nat) (ks : List ByteArray) (hp : SnapM w p m) (hs : SrcMap w m n F) (hC : Kd.string.C w A ks.length ks) (hks : ∀ k ∈ ks, k.size ≤ maxLen) (hroom : n ≤ 1000000) :
    Calls Tryd.prog 39 #[.pointer p, .slice A ks.length c] w (DropPost w (ks.foldl dropS (n, F)).1 (ks.foldl dropS (n, F)).2) := by
  have hcop := Lib.hid (copied_calls w p m n F hp hs hroom)
  have HC := Lib.hid hC
  have HK := Lib.hid hks
  have hl := hC.2.1
  clear hp hs hC hks hroom
  go_enter Tryd.func39, Tryd.ntmps39
  go_wp2_with (go_at_call 63; refine hcop.out.mono ?_; rintro e1 w1 ⟨g, b, rfl, hg1, hm1, hbl, hgl, hb1⟩; have HG1 := Lib.hid hg1; have HM1 := Lib.hid hm1; have HB1 := Lib.hid hb1; have HBL := Lib.hid hbl; clear hg1 hm1 hb1 hbl hgl)
  go_loopw [12] (fun v wr => DropRel w g b ks (n, F) v wr) (fun v _ => ks.length - (intOf v).toNat)
  case atStart => exact ⟨0, Nat.zero_le _, rfl, HG1.out, HM1.out, HB1.out⟩
  case round =>
    obtain ⟨k, hk, rfl, hg, hm, hb⟩ := hrel
    by_cases hlt : k < ks.length
    · obtain ⟨ad, rfl, hcell⟩ := Kd_string_at (Kd.C_below HC.out hb) k hlt
      have hg0 : wr.cell? ⟨g, 0, none⟩ = some (.map (some b)) := (blk_cell hg 0).trans rfl
      have HS := Lib.hid (foldl_snoc ks k hlt (n, F))
      have hsz : (ks.getD k ByteArray.empty).size ≤ maxLen := HK.out _ (by simp [List.getD_eq_getElem?_getD, hlt])
      have HN := Lib.hid (map_ne hm hg)
      obtain ⟨w2, hrun, hm2, hf2⟩ := hm.drop hsz 0
      have HG := Lib.hid hg
      have HM2 := Lib.hid hm2
      have HF2 := Lib.hid hf2
      have HBm := Lib.hid hm.lt
      have HB := Lib.hid hb
      clear hg hm hm2 hf2 hsz hb
      generalize ks.getD k ByteArray.empty = key at *
      go_wp2
      refine ⟨⟨k + 1, by omega, by go_num, HF2.out.heap HG.out HN.out, ?_, HB.out.trans (HF2.out.belowB (B := w.heap.size) (fun j hj => by have := HBL.out; omega) HB.out.size)⟩, by simp [intOf]; omega⟩
      rw [HS.out]
      exact HM2.out
    · obtain rfl : k = ks.length := by omega
      go_wp2
      go_ret
      rw [List.take_length] at hm
      exact ⟨g, b, rfl, hg, hm, hb⟩
end Go.Proofs.YtoiaancehakiiaaDoor.Q
/- The walk of snap.New. -/
namespace Go.Proofs.YtoiaancehakiiaaDoor.Q
open Go.RowKit Go.Maps Go.Proofs.YtoiaancehakiiaaDoor.Plain Go.Proofs.YtoiaancehakiiaaDoorW.PrintWords

def dv (x : S31) : DefV := ⟨x.f0, x.f1, x.f2, x.f3, x.f4, x.f5⟩
abbrev SnapS := Nat × (ByteArray → Option DefV)
/-- what New makes of definitions: an error, or how many entries and which -/
def newGo : List DefV → SnapS → Int ⊕ SnapS
  | [], s => .inr s
  | d :: r, s => if rightD d = false then .inl 31 else if (s.2 (keyD d)).isSome = true then .inl 45 else newGo r (s.1 + 1, upd s.2 (keyD d) d)
def snap0 : SnapS := (0, fun _ => none)
def NewPost (w : World) (res : Int ⊕ SnapS) (e : Ending) (w' : World) : Prop :=
  match res with
  | .inl c => e = .returned (.tuple #[.pointer none, .int .i64 c]) ∧ Below w.heap.size w w'
  | .inr s => ∃ g b, e = .returned (.tuple #[.pointer (some ⟨g, 0, none⟩), .int .i64 0]) ∧ w'.heap[g]? = some (.cells #[.map (some b)] 69 (0, 0)) ∧ MapAt w' b s.1 s.2 ∧ Below w.heap.size w w'
def NewRel (w : World) (g b : Nat) (l : List S31) (fin : Int ⊕ SnapS) (v : Value) (wr : World) : Prop :=
  ∃ (k : Nat) (F : ByteArray → Option DefV), k ≤ l.length ∧ v = .int .i64 k ∧ wr.heap[g]? = some (.cells #[.map (some b)] 69 (0, 0)) ∧ MapAt wr b k F ∧ Below w.heap.size w wr ∧ newGo ((l.drop k).map dv) (k, F) = fin

set_option maxHeartbeats 4000000 in
set_option maxRecDepth 100000 in
theorem new_calls (w : World) (A : Option Addr) (c : Nat) (l : List S31) (hC : Kd.C k31 w A l.length l) (hbd : ∀ x ∈ l, Bd (dv x)) (hlen : l.length < 500) :
    Calls Tryd.prog 16 #[.slice A l.length c] w (NewPost w (newGo (l.map dv) snap0)) := by
  have HC := Lib.hid hC
  have HBD := Lib.hid hbd
  clear hC hbd
  have hmm := @run_makeMap Tryd.prog
  obtain ⟨fin, hfin⟩ : ∃ fin, newGo (l.map dv) snap0 = fin := ⟨_, rfl⟩
  have HFIN := Lib.hid hfin
  rw [hfin]
  clear hfin
  go_enter Tryd.func16, Tryd.ntmps16
  go_wp2
  have HB0 := Lib.hid (below_alloc (below_alloc (Below.refl _ w) (.map #[] 0)) (.cells #[.map (some w.heap.size)] 69))
  have HG0 := Lib.hid (alloc_second w (.map #[] 0) (.cells #[.map (some w.heap.size)] 69))
  have HM0 := Lib.hid ((MapAt.made w).below (below_alloc (Below.refl _ _) (.cells #[.map (some w.heap.size)] 69)))
  clear hmm
  generalize (w.alloc (.map #[] 0)).alloc (.cells #[.map (some w.heap.size)] 69) = w1 at *
  go_loopw [15] (fun v wr => NewRel w (w.heap.size + 1) w.heap.size l fin v wr) (fun v _ => l.length - (intOf v).toNat)
  case atStart => exact ⟨0, fun _ => none, Nat.zero_le _, rfl, HG0.out, HM0.out, HB0.out, HFIN.out⟩
  case round =>
    obtain ⟨k, F, hk, rfl, hg, hm, hb, hgo⟩ := hrel
    have HG := Lib.hid hg
    have HM := Lib.hid hm
    have HB := Lib.hid hb
    clear hg hm hb HG0 HM0 HB0
    by_cases hlt : k < l.length
    · obtain ⟨ad, A3, c3, rfl, hx0, hx1, hx2, hx3, hx4, hx5, hl3, hC3⟩ := at_T31 (Kd.C_below HC.out HB.out) (k : Int) (by omega) (by omega)
      have hdrop : l.drop k = rd_T31 l (k : Int) :: l.drop (k + 1) := by
        rw [List.drop_eq_getElem_cons hlt]
        simp [rd_T31, List.getD_eq_getElem?_getD, hlt]
      rw [hdrop, List.map_cons] at hgo
      have hbx : Bd (dv (rd_T31 l (k : Int))) := HBD.out _ (by simp [rd_T31, List.getD_eq_getElem?_getD, hlt])
      obtain ⟨d, hd⟩ : ∃ d, dv (rd_T31 l (k : Int)) = d := ⟨_, rfl⟩
      rw [hd] at hgo hbx
      simp only [Int.toNat_natCast] at hx0 hx1 hx2 hx3 hx4 hx5
      change wr.cell? _ = some (.int .i64 (dv (rd_T31 l (k : Int))).kind) at hx0
      change wr.cell? _ = some (.string (dv (rd_T31 l (k : Int))).cls) at hx1
      change wr.cell? _ = some (.string (dv (rd_T31 l (k : Int))).sup) at hx2
      change wr.cell? _ = some (.slice A3 (dv (rd_T31 l (k : Int))).vars.length c3) at hx3
      change wr.cell? _ = some (.string (dv (rd_T31 l (k : Int))).sel) at hx4
      change wr.cell? _ = some (.string (dv (rd_T31 l (k : Int))).src) at hx5
      change (dv (rd_T31 l (k : Int))).vars.length ≤ c3 at hl3
      change Kd.string.C wr A3 (dv (rd_T31 l (k : Int))).vars.length (dv (rd_T31 l (k : Int))).vars at hC3
      rw [hd] at hx0 hx1 hx2 hx3 hx4 hx5 hl3 hC3
      clear hd hdrop
      have hkc : Hid (∀ W, Below wr.heap.size wr W → Calls Tryd.prog 29 #[.agg #[.int .i64 d.kind, .string d.cls, .string d.sup, .slice A3 d.vars.length c3, .string d.sel, .string d.src]] W fun e w' => e = .returned (.string (keyD d)) ∧ Below W.heap.size W w') := Lib.hid (fun W hW => defkey_calls d A3 c3 W hbx (Kd.C_below hC3 hW) hl3)
      have hcl : Hid (∀ W, Below wr.heap.size wr W → Calls Tryd.prog 40 #[.agg #[.int .i64 d.kind, .string d.cls, .string d.sup, .slice A3 d.vars.length c3, .string d.sel, .string d.src]] W (DClonePost W d)) := Lib.hid (fun W hW => dclone_calls d A3 c3 W (Kd.C_below hC3 hW) hbx.vars)
      have hlook : Hid (∀ W, Below wr.heap.size wr W → ∃ d' A' c', LookAt W (some w.heap.size) F (keyD d) (dVal d' A' c')) := Lib.hid (fun W hW => by obtain ⟨d', A', c', h, _⟩ := SrcMap.look (w := W) (m := some w.heap.size) (n := k) (F := F) (HM.out.below hW) hbx.key; exact ⟨d', A', c', h⟩)
      have hlenF : Hid (∀ W ty, Below wr.heap.size wr W → (Builtin.len_ #[67] ty #[.map (some w.heap.size)]).run Tryd.prog W = .ok (.int .i64 k) W) := Lib.hid (fun W ty hW => SrcMap.len (w := W) (m := some w.heap.size) (n := k) (F := F) (HM.out.below hW) ty)
      have hkey := Lib.hid hbx.key
      have hnn : ((k : Int) == 500) = false := by rw [beq_eq_false_iff_ne]; omega
      have HLEN := Lib.hid hlen
      clear hC3 hbx
      cases hr : rightD d
      · rw [newGo, if_pos hr] at hgo
        subst hgo
        rw [key_none hr] at hkc hlook hkey
        clear hr hkey hcl
        obtain ⟨bb, hbb⟩ : ∃ bb, (F ByteArray.empty).isSome = bb := ⟨_, rfl⟩
        have HH := Lib.hid hbb
        clear hbb
        go_wp2_with (first | (go_at_call 29; refine (hkc.out _ (below_alloc (Below.refl _ wr) _)).mono ?_; rintro e1 w2 ⟨rfl, hb2⟩; have HB2 := Lib.hid (below_then (below_alloc (Below.refl _ wr) _) (by rw [World.size_alloc]; omega) hb2); have HP2 := Lib.hid ((hb2.block wr.heap.size (by rw [World.size_alloc]; omega)).trans (heap_alloc_new wr _)); have hg2 : w2.cell? ⟨w.heap.size + 1, 0, none⟩ = some (.map (some w.heap.size)) := (blk_cell ((HB2.out.block _ (blk_lt HG.out)).trans HG.out) 0).trans rfl; obtain ⟨d', A', c', hL⟩ := hlook.out _ HB2.out; have hL : (Instr.lookup 67 (.map (some w.heap.size)) (.string ByteArray.empty) true).run Tryd.prog w2 = .ok (.tuple #[.agg #[.int .i64 d'.kind, .string d'.cls, .string d'.sup, .slice A' d'.vars.length c', .string d'.sel, .string d'.src], .bool (F ByteArray.empty).isSome]) w2 := hL; rw [HH.out] at hL; have hln := fun ty => hlenF.out (w2.alloc (.cells #[.int .i64 d'.kind, .string d'.cls, .string d'.sup, .slice A' d'.vars.length c', .string d'.sel, .string d'.src] 31)) ty (below_alloc HB2.out _); have hg3 : (w2.alloc (.cells #[.int .i64 d'.kind, .string d'.cls, .string d'.sup, .slice A' d'.vars.length c', .string d'.sel, .string d'.src] 31)).cell? ⟨w.heap.size + 1, 0, none⟩ = some (.map (some w.heap.size)) := ((Fr.refl (fun _ => False) w2).alloc _).cell hg2 (fun h => h); clear hb2))
        go_ret2
        exact ⟨rfl, HB.out.trans ((below_alloc HB2.out _).mono HB.out.size)⟩
      · have hne := key_ne hr
        have hke : (keyD d).toList.isEmpty = false := by
          rw [Bool.eq_false_iff, ne_eq, List.isEmpty_iff, tl_nil]
          exact hne
        rw [newGo, if_neg (by simp [hr])] at hgo
        clear hr hne
        simp only at hgo
        generalize keyD d = key at *
        cases hh : (F key).isSome
        · rw [if_neg (by simp [hh])] at hgo
          have HH := Lib.hid hh
          have HGO := Lib.hid hgo
          clear hh hgo
          go_wp2_with (first | (go_at_call 29; refine (hkc.out _ (below_alloc (Below.refl _ wr) _)).mono ?_; rintro e1 w2 ⟨rfl, hb2⟩; have HB2 := Lib.hid (below_then (below_alloc (Below.refl _ wr) _) (by rw [World.size_alloc]; omega) hb2); have HP2 := Lib.hid ((hb2.block wr.heap.size (by rw [World.size_alloc]; omega)).trans (heap_alloc_new wr _)); have hg2 : w2.cell? ⟨w.heap.size + 1, 0, none⟩ = some (.map (some w.heap.size)) := (blk_cell ((HB2.out.block _ (blk_lt HG.out)).trans HG.out) 0).trans rfl; obtain ⟨d', A', c', hL⟩ := hlook.out _ HB2.out; have hL : (Instr.lookup 67 (.map (some w.heap.size)) (.string key) true).run Tryd.prog w2 = .ok (.tuple #[.agg #[.int .i64 d'.kind, .string d'.cls, .string d'.sup, .slice A' d'.vars.length c', .string d'.sel, .string d'.src], .bool (F key).isSome]) w2 := hL; rw [HH.out] at hL; have hln := fun ty => hlenF.out (w2.alloc (.cells #[.int .i64 d'.kind, .string d'.cls, .string d'.sup, .slice A' d'.vars.length c', .string d'.sel, .string d'.src] 31)) ty (below_alloc HB2.out _); have hg3 : (w2.alloc (.cells #[.int .i64 d'.kind, .string d'.cls, .string d'.sup, .slice A' d'.vars.length c', .string d'.sel, .string d'.src] 31)).cell? ⟨w.heap.size + 1, 0, none⟩ = some (.map (some w.heap.size)) := ((Fr.refl (fun _ => False) w2).alloc _).cell hg2 (fun h => h); clear hb2))
          clear hL hln hg2 hg3
          have HB3 := Lib.hid (below_alloc HB2.out (.cells #[.int .i64 d'.kind, .string d'.cls, .string d'.sup, .slice A' d'.vars.length c', .string d'.sel, .string d'.src] 31))
          have HP3 := Lib.hid (blk_alloc HP2.out (.cells #[.int .i64 d'.kind, .string d'.cls, .string d'.sup, .slice A' d'.vars.length c', .string d'.sel, .string d'.src] 31))
          clear HB2 HP2
          generalize w2.alloc (.cells #[.int .i64 d'.kind, .string d'.cls, .string d'.sup, .slice A' d'.vars.length c', .string d'.sel, .string d'.src] 31) = w3 at *
          have HG3 := Lib.hid ((HB3.out.block _ (blk_lt HG.out)).trans HG.out)
          have HM3 := Lib.hid ((HM.out.below HB3.out).below (below_drew (Below.refl _ w3)))
          have HBd := Lib.hid (below_drew HB3.out)
          have HS3 := Lib.hid (put_s (Fr.refl (fun _ => False) w3).drew HG3.out HP3.out (fun h => h) (fun h => h))
          go_region_held3 (fun W => W.cell? ⟨w.heap.size + 1, 0, none⟩ = some (.map (some w.heap.size)) ∧ W.cell? ⟨wr.heap.size, 0, none⟩ = some (.int .i64 d.kind) ∧ W.cell? ⟨wr.heap.size, 1, none⟩ = some (.string d.cls) ∧ W.cell? ⟨wr.heap.size, 2, none⟩ = some (.string d.sup) ∧ W.cell? ⟨wr.heap.size, 3, none⟩ = some (.slice A3 d.vars.length c3) ∧ W.cell? ⟨wr.heap.size, 4, none⟩ = some (.string d.sel) ∧ W.cell? ⟨wr.heap.size, 5, none⟩ = some (.string d.src)) (first | exact HSu.out | exact HS4.out | exact HS3.out)
            (first
            | (go_at_call 40; refine (hcl.out _ HBd.out).mono ?_; rintro e4 w4 ⟨A4, c4, he4, hc4, hC4, hb4⟩; obtain rfl : e4 = .returned (.agg #[.int .i64 d.kind, .string d.cls, .string d.sup, .slice A4 d.vars.length c4, .string d.sel, .string d.src]) := he4; have hf4 := (Fr.refl (fun k => k = w.heap.size) w3).drew.step (Fr.of_below (fun k => k = w.heap.size) hb4); have HS4 := Lib.hid (put_s hf4 HG3.out HP3.out (map_ne HM3.out HG3.out) (map_ne HM3.out HP3.out)); obtain ⟨wu, hrun, hmu, hfu⟩ := (HM3.out.below hb4).put hkey.out (by unfold maxLen; have := HLEN.out; omega) (v := .agg #[.int .i64 d.kind, .string d.cls, .string d.sup, .slice A4 d.vars.length c4, .string d.sel, .string d.src]) ⟨A4, c4, rfl, hc4, hC4⟩; have HSu := Lib.hid (put_s (hf4.step hfu) HG3.out HP3.out (map_ne HM3.out HG3.out) (map_ne HM3.out HP3.out)); have HGu := Lib.hid ((hf4.step hfu).heap HG3.out (map_ne HM3.out HG3.out)); have HMu := Lib.hid hmu; have HFu := Lib.hid hfu; have HB4 := Lib.hid (below_then HBd.out HBd.out.size hb4); clear hmu hfu hb4 hf4 hC4))
          have hmu := HMu.out
          rw [if_neg (by rw [HH.out]; simp)] at hmu
          have HMv := Lib.hid hmu
          clear hmu HMu
          go_wp2
          refine ⟨⟨k + 1, _, by omega, by go_num, HGu.out, HMv.out, HB.out.trans ((HB4.out.mono HB.out.size).trans (HFu.out.belowB (B := w.heap.size) (fun j hj => by omega) (Nat.le_trans HB.out.size HB4.out.size))), HGO.out⟩, by simp [intOf]; omega⟩
        · rw [if_pos hh] at hgo
          subst hgo
          have HH := Lib.hid hh
          clear hh
          go_wp2_with (first | (go_at_call 29; refine (hkc.out _ (below_alloc (Below.refl _ wr) _)).mono ?_; rintro e1 w2 ⟨rfl, hb2⟩; have HB2 := Lib.hid (below_then (below_alloc (Below.refl _ wr) _) (by rw [World.size_alloc]; omega) hb2); have HP2 := Lib.hid ((hb2.block wr.heap.size (by rw [World.size_alloc]; omega)).trans (heap_alloc_new wr _)); have hg2 : w2.cell? ⟨w.heap.size + 1, 0, none⟩ = some (.map (some w.heap.size)) := (blk_cell ((HB2.out.block _ (blk_lt HG.out)).trans HG.out) 0).trans rfl; obtain ⟨d', A', c', hL⟩ := hlook.out _ HB2.out; have hL : (Instr.lookup 67 (.map (some w.heap.size)) (.string key) true).run Tryd.prog w2 = .ok (.tuple #[.agg #[.int .i64 d'.kind, .string d'.cls, .string d'.sup, .slice A' d'.vars.length c', .string d'.sel, .string d'.src], .bool (F key).isSome]) w2 := hL; rw [HH.out] at hL; have hln := fun ty => hlenF.out (w2.alloc (.cells #[.int .i64 d'.kind, .string d'.cls, .string d'.sup, .slice A' d'.vars.length c', .string d'.sel, .string d'.src] 31)) ty (below_alloc HB2.out _); have hg3 : (w2.alloc (.cells #[.int .i64 d'.kind, .string d'.cls, .string d'.sup, .slice A' d'.vars.length c', .string d'.sel, .string d'.src] 31)).cell? ⟨w.heap.size + 1, 0, none⟩ = some (.map (some w.heap.size)) := ((Fr.refl (fun _ => False) w2).alloc _).cell hg2 (fun h => h); clear hb2))
          go_ret2
          exact ⟨rfl, HB.out.trans ((below_alloc HB2.out _).mono HB.out.size)⟩
    · obtain rfl : k = l.length := by omega
      rw [List.drop_length] at hgo
      obtain rfl : Sum.inr (l.length, F) = fin := hgo
      go_wp2
      go_ret2
      exact ⟨_, _, rfl, HG.out, HM.out, HB.out⟩
end Go.Proofs.YtoiaancehakiiaaDoor.Q
/- The walks of maps.EqualFunc with def.Same, and of Snap.Same, where both hold the same. -/
namespace Go.Proofs.YtoiaancehakiiaaDoor.Q
open Go.RowKit Go.Maps Go.Proofs.YtoiaancehakiiaaDoor.Plain Go.Proofs.YtoiaancehakiiaaDoorW.PrintWords

theorem sequal_at (l : List ByteArray) (hl : l.length ≤ 9223372036854775807) (d : Nat) : ∀ (k i : Nat), l.length - i = d → i ≤ l.length → d < k → slices_Equal_string_string.l0 k l l (l.length : Int) (i : Int) = some true := by
  induction d with
  | zero =>
    intro k i hd hi hk
    obtain ⟨k, rfl⟩ : ∃ m, k = m + 1 := ⟨k - 1, by omega⟩
    simp only [slices_Equal_string_string.l0]
    rw [if_neg (by omega)]
  | succ d ih =>
    intro k i hd hi hk
    obtain ⟨k, rfl⟩ : ∃ m, k = m + 1 := ⟨k - 1, by omega⟩
    simp only [slices_Equal_string_string.l0]
    rw [if_pos (by omega), if_pos (by omega), if_pos (by omega), if_pos (by omega)]
    simp only [if_true]
    rw [w64 i (by omega)]
    exact ih k (i + 1) (by omega) (by omega) (by omega)
theorem dsame_refl (k : Nat) (d : DefV) (hl : d.vars.length ≤ 9223372036854775807) (hk : d.vars.length < k) : def_Same.f k d.kind d.cls d.sup d.vars d.sel d.src d.kind d.cls d.sup d.vars d.sel d.src = some true := by
  unfold def_Same.f slices_Equal_string_string.f
  have h := sequal_at d.vars hl d.vars.length k 0 (by omega) (by omega) hk
  have h2 : slices_Equal_string_string.l0 k d.vars d.vars (d.vars.length : Int) 0 = some true := h
  simp only [if_true]
  rw [h2]
  simp
theorem dsame_calls (d : DefV) (A1 A2 : Option Addr) (c1 c2 : Nat) (w : World) (h1 : Kd.string.C w A1 d.vars.length d.vars) (l1 : d.vars.length ≤ c1) (h2 : Kd.string.C w A2 d.vars.length d.vars) (l2 : d.vars.length ≤ c2) :
    Calls Tryd.prog 49 #[.agg #[.int .i64 d.kind, .string d.cls, .string d.sup, .slice A1 d.vars.length c1, .string d.sel, .string d.src], .agg #[.int .i64 d.kind, .string d.cls, .string d.sup, .slice A2 d.vars.length c2, .string d.sel, .string d.src]] w fun e w' => e = .returned (.bool true) ∧ Below w.heap.size w w' :=
  def_Same.calls (d.vars.length + 1) d.kind d.cls d.sup A1 c1 d.vars d.sel d.src d.kind d.cls d.sup A2 c2 d.vars d.sel d.src true w h1 l1 h2 l2 (dsame_refl _ d h1.2.1 (Nat.lt_succ_self _))

theorem Fr.of_none {w w' : World} (h : w.grownBy w' none) : Below w.heap.size w w' := ⟨h.os, h.tape, h.output, h.size, fun i hi => h.block i hi (by simp)⟩
set_option maxHeartbeats 4000000 in
set_option maxRecDepth 100000 in
theorem equal_calls (w : World) (b1 b2 n : Nat) (F : ByteArray → Option DefV) (h1 : MapAt w b1 n F) (h2 : MapAt w b2 n F) :
    Calls Tryd.prog 47 #[.map (some b1), .map (some b2), .func (.func 49) #[] #[]] w fun e w' => e = .returned (.bool true) ∧ Below w.heap.size w w' := by
  have l1 := fun ty => SrcMap.len (w := w) (m := some b1) (n := n) (F := F) h1 ty
  have l2 := fun ty => SrcMap.len (w := w) (m := some b2) (n := n) (F := F) h2 ty
  have H2 := Lib.hid h2
  obtain ⟨D, ho, hsz, hF⟩ := h1
  have HF := Lib.hid hF
  have HO := Lib.hid ho
  have hb1 := ho.lt
  have hb2 := h2.lt
  clear h2 hF hsz
  have eg := enters_of Tryd.func49 (by kernel_rfl) rfl
  go_enter Tryd.func47, Tryd.ntmps47
  go_wp2_with (first
    | (at_range; refine wpList_range_own _ rfl _ 67 rfl 9 31 strK Tryd.underlying67 RV b1 n _ rfl HO.out ?_; intro w0 hrg0 hg0 hs0)
    | go_in)
  go_frame
  go_loopw [18] (fun _ wr => ∃ (left : Lit → Bool) (cnt : Nat), wr.ranges Tryd.prog 9 RV b1 w.heap.size n D left cnt ∧ Below w.heap.size w wr)
    (fun _ wr => wr.rangeLeft b1 w.heap.size)
  case atStart => exact ⟨_, _, hrg0, Fr.of_none hg0⟩
  case round =>
    obtain ⟨left, cnt, hrg, hgw⟩ := hrel
    clear l1 l2
    go_wp2_with (first
      | (at_next; refine wpList_next_ranges _ rfl _ rfl 9 strK RV id id (fun key _ _ => ⟨key, rfl⟩) (fun v _ _ => ⟨v, rfl⟩) b1 w.heap.size n _ _ _ rfl hrg ?_ ?_)
      | go_in)
    · intro _ hl0
      go_wp2
      go_ret
      exact ⟨rfl, hgw⟩
    · intro x c kl yd yp w1 cnt1 hkey hlx hv hat hrg1 hlt hg1 hs1 hen
      obtain ⟨k, hx, rfl, hksz⟩ := keyOf_inv hkey
      have hx : x = .string k := hx
      subst hx
      obtain rfl : DataW.held c = yd := congrArg Prod.fst (Option.some.inj hv)
      have hhas : Maps.has D (keyL k) = true := has_true_of_atKey hat
      have hgw1 : Below w.heap.size w w1 := hgw.trans ((Fr.turned hg1).belowB (B := w.heap.size) (fun j hj => by omega) hgw.size)
      obtain ⟨d, A, cc, hcv, hcc, hCC, hFk⟩ : ∃ d A cc, c = dVal d A cc ∧ d.vars.length ≤ cc ∧ Kd.string.C w A d.vars.length d.vars ∧ F k = some d := by
        have h1 := (HF.out k hksz).1
        rw [hhas] at h1
        obtain ⟨d, hd'⟩ := Option.isSome_iff_exists.1 h1.symm
        obtain ⟨v, hv', A, cc, rfl, hl, hC⟩ := (HF.out k hksz).2 d hd'
        have h2 := hat .nil
        rw [hv'] at h2
        injection h2 with h2
        exact ⟨d, A, cc, h2.symm, hl, hC, hd'⟩
      have hcv : c = .agg #[.int .i64 d.kind, .string d.cls, .string d.sup, .slice A d.vars.length cc, .string d.sel, .string d.src] := hcv
      subst hcv
      obtain ⟨d2, A2, c2, hL, hl2, hC2, hd2, _⟩ := SrcMap.look (w := w1.alloc (.cells #[.int .i64 d.kind, .string d.cls, .string d.sup, .slice A d.vars.length cc, .string d.sel, .string d.src] 31)) (m := some b2) (n := n) (F := F) (H2.out.below (below_alloc hgw1 _)) hksz
      obtain rfl := hd2 d hFk
      have hL : (Instr.lookup 67 (.map (some b2)) (.string k) true).run Tryd.prog (w1.alloc (.cells #[.int .i64 d2.kind, .string d2.cls, .string d2.sup, .slice A d2.vars.length cc, .string d2.sel, .string d2.src] 31)) = .ok (.tuple #[.agg #[.int .i64 d2.kind, .string d2.cls, .string d2.sup, .slice A2 d2.vars.length c2, .string d2.sel, .string d2.src], .bool (F k).isSome]) (w1.alloc (.cells #[.int .i64 d2.kind, .string d2.cls, .string d2.sup, .slice A d2.vars.length cc, .string d2.sel, .string d2.src] 31)) := hL
      rw [hFk] at hL
      simp only [Option.isSome_some] at hL
      have hsame : Hid (∀ W, Below (w1.alloc (.cells #[.int .i64 d2.kind, .string d2.cls, .string d2.sup, .slice A d2.vars.length cc, .string d2.sel, .string d2.src] 31)).heap.size (w1.alloc (.cells #[.int .i64 d2.kind, .string d2.cls, .string d2.sup, .slice A d2.vars.length cc, .string d2.sel, .string d2.src] 31)) W → Calls Tryd.prog 49 #[.agg #[.int .i64 d2.kind, .string d2.cls, .string d2.sup, .slice A d2.vars.length cc, .string d2.sel, .string d2.src], .agg #[.int .i64 d2.kind, .string d2.cls, .string d2.sup, .slice A2 d2.vars.length c2, .string d2.sel, .string d2.src]] W fun e w' => e = .returned (.bool true) ∧ Below W.heap.size W w') :=
        Lib.hid (fun W hW => dsame_calls d2 A A2 cc c2 W (Kd.C_below (Kd.C_below hCC (below_alloc hgw1 _)) hW) hcc (Kd.C_below hC2 hW) hl2)
      have hat := Lib.hid hat
      have HRG := Lib.hid hrg1
      clear hhas hv hFk hd2 hC2 hCC hrg1 hkey
      go_wp2_with (first
        | (go_at_call 49; refine (hsame.out _ (below_alloc (Below.refl _ _) _)).mono ?_; rintro e w2 ⟨rfl, hb2⟩; have HB2 := Lib.hid hb2; clear hb2)
        | go_in)
      have hrg2 := ((HRG.out.alloc _).alloc _).kept (grown_of_below HB2.out none) (by simp) (by simp)
      refine ⟨⟨_, cnt1, hrg2, hgw1.trans ((below_then (below_alloc (below_alloc (Below.refl _ w1) _) _) (by rw [World.size_alloc, World.size_alloc]; omega) HB2.out).mono hgw1.size)⟩, ?_⟩
      rw [hrg2.left_eq, hrg.left_eq]
      exact hlt
theorem same_calls (w : World) (p1 p2 : Option Addr) (b1 b2 n : Nat) (F : ByteArray → Option DefV) (hp1 : SnapM w p1 (some b1)) (hp2 : SnapM w p2 (some b2)) (h1 : MapAt w b1 n F) (h2 : MapAt w b2 n F) :
    Calls Tryd.prog 20 #[.pointer p1, .pointer p2] w fun e w' => e = .returned (.bool true) ∧ Below w.heap.size w w' := by
  have ha1 := Lib.hid (all_calls w p1 (some b1) hp1)
  have ha2 := Lib.hid (all_calls w p2 (some b2) hp2)
  have he := Lib.hid (equal_calls w b1 b2 n F h1 h2)
  clear hp1 hp2 h1 h2
  go_enter Tryd.func20, Tryd.ntmps20
  go_wp2_with fail
  refine ha1.out.mono ?_
  rintro _ _ ⟨rfl, rfl⟩
  go_wp2_with fail
  refine ha2.out.mono ?_
  rintro _ _ ⟨rfl, rfl⟩
  go_wp2_with fail
  refine he.out.mono ?_
  rintro _ w2 ⟨rfl, hb⟩
  go_wp2
  go_ret
  exact ⟨rfl, hb⟩
end Go.Proofs.YtoiaancehakiiaaDoor.Q
/- The walk of the document's example of layer 8. -/
namespace Go.Proofs.YtoiaancehakiiaaDoor.Q
open Go.RowKit Go.Maps Go.Proofs.YtoiaancehakiiaaDoor.Plain Go.Proofs.YtoiaancehakiiaaDoorW.PrintWords

def sd (d : DefV) : S31 := ⟨d.kind, d.cls, d.sup, d.vars, d.sel, d.src⟩
theorem dv_sd (d : DefV) : dv (sd d) = d := rfl
def aD1 : DefV := ⟨1, ⟨#[65]⟩, ⟨#[79, 98, 106, 101, 99, 116]⟩, [], ⟨#[]⟩, ⟨#[]⟩⟩
def aD2 : DefV := ⟨2, ⟨#[65]⟩, ⟨#[]⟩, [], ⟨#[98]⟩, ⟨#[]⟩⟩
theorem aR1 : rightD aD1 = true := by decide +kernel
theorem aR2 : rightD aD2 = true := by decide +kernel
theorem aK1 : keyD aD1 = ⟨#[65]⟩ := by decide +kernel
theorem aK2 : keyD aD2 = ⟨#[65, 62, 62, 98]⟩ := by decide +kernel
def aF : ByteArray → Option DefV := upd (upd (fun _ => none) ⟨#[65]⟩ aD1) ⟨#[65, 62, 62, 98]⟩ aD2
theorem aNew : newGo ([sd aD1, sd aD2].map dv) snap0 = .inr (2, aF) := by
  simp only [List.map_cons, List.map_nil, dv_sd, newGo, snap0, aR1, aR2, aK1, aK2, aF]
  rfl
theorem aDrop : ([(⟨#[65]⟩ : ByteArray)].foldl dropS (2, aF)).1 = 1 := by
  simp only [List.foldl_cons, List.foldl_nil, dropS]
  rw [if_pos (by decide +kernel)]

/-- two definitions without variables, in one block -/
theorem row_two {W : World} {B : Nat} {d1 d2 : DefV} (h1 : d1.vars = []) (h2 : d2.vars = []) (hb : W.heap[B]? = some (.cells #[.int .i64 d1.kind, .string d1.cls, .string d1.sup, .slice none 0 0, .string d1.sel, .string d1.src, .int .i64 d2.kind, .string d2.cls, .string d2.sup, .slice none 0 0, .string d2.sel, .string d2.src] 31 (0, 0))) :
    Kd.C k31 W (some ⟨B, 0, none⟩) 2 [sd d1, sd d2] := by
  refine ⟨rfl, by decide, fun _ => ⟨⟨B, 0, none⟩, rfl, fun j p hj => ?_⟩⟩
  rcases j with _ | _ | j
  · obtain rfl : sd d1 = p := by simpa using hj
    refine ⟨_, rfl, k31_mk W (sd d1) (A3 := none) (c3 := 0) (by simp [sd, h1]) (by simp only [sd, h1]; exact Kd.C_nil _ _), fun i u hu => ?_⟩
    rw [add_plain, blk_cell hb]
    simp only [sd, h1] at hu
    rcases i with _ | _ | _ | _ | _ | _ | i
    all_goals first | exact hu | (simp at hu)
  · obtain rfl : sd d2 = p := by simpa using hj
    refine ⟨_, rfl, k31_mk W (sd d2) (A3 := none) (c3 := 0) (by simp [sd, h2]) (by simp only [sd, h2]; exact Kd.C_nil _ _), fun i u hu => ?_⟩
    rw [add_plain, blk_cell hb]
    simp only [sd, h2] at hu
    rcases i with _ | _ | _ | _ | _ | _ | i
    all_goals first | exact hu | (simp at hu)
  · simp at hj

theorem row_str {W : World} {B : Nat} {s : ByteArray} (hb : W.heap[B]? = some (.cells #[.string s] 9 (0, 0))) : Kd.string.C W (some ⟨B, 0, none⟩) 1 [s] := by
  refine Kd.C_of_reads (enc := Value.string) (d := ByteArray.empty) (h1 := fun _ => rfl) ⟨rfl, by decide, fun _ => ⟨⟨B, 0, none⟩, rfl, fun j hj => ?_⟩⟩
  obtain rfl : j = 0 := by omega
  rw [add_plain, blk_cell hb]
  rfl
theorem new_mono {w : World} {res : Int ⊕ SnapS} {s : SnapS} (h : res = .inr s) {e : Ending} {w' : World} (hp : NewPost w res e w') :
    ∃ g b, e = .returned (.tuple #[.pointer (some ⟨g, 0, none⟩), .int .i64 0]) ∧ w'.heap[g]? = some (.cells #[.map (some b)] 69 (0, 0)) ∧ MapAt w' b s.1 s.2 ∧ Below w.heap.size w w' := by
  subst h
  exact hp

set_option maxHeartbeats 2000000 in
theorem snap_awake (w : World) : Calls Tryd.prog 13 #[] w fun e w' => e = .returned (.bool true) ∧ Below w.heap.size w w' := by
  have hnew : Hid (∀ W B, W.heap[B]? = some (.cells #[.int .i64 1, .string ⟨#[65]⟩, .string ⟨#[79, 98, 106, 101, 99, 116]⟩, .slice none 0 0, .string ⟨#[]⟩, .string ⟨#[]⟩, .int .i64 2, .string ⟨#[65]⟩, .string ⟨#[]⟩, .slice none 0 0, .string ⟨#[98]⟩, .string ⟨#[]⟩] 31 (0, 0)) →
      Calls Tryd.prog 16 #[.slice (some ⟨B, 0, none⟩) 2 2] W fun e w' => ∃ g b, e = .returned (.tuple #[.pointer (some ⟨g, 0, none⟩), .int .i64 0]) ∧ w'.heap[g]? = some (.cells #[.map (some b)] 69 (0, 0)) ∧ MapAt w' b 2 aF ∧ Below W.heap.size W w') :=
    Lib.hid (fun W B hb => (new_calls W (some ⟨B, 0, none⟩) 2 [sd aD1, sd aD2] (row_two (d1 := aD1) (d2 := aD2) rfl rfl hb) (fun x hx => by
      rcases List.mem_cons.1 hx with rfl | hx
      · exact ⟨by decide, by decide, by decide⟩
      · obtain rfl := List.mem_singleton.1 hx
        exact ⟨by decide, by decide, by decide⟩) (by decide)).mono fun e w' hp => new_mono aNew hp)
  go_enter Tryd.func13, Tryd.ntmps13
  go_wp2_with fail
  refine (hnew.out _ w.heap.size (heap_alloc_new w _)).mono ?_
  rintro e1 w1 ⟨g, b, rfl, hg, hm, hb1⟩
  have HB1 := Lib.hid (below_then (below_alloc (Below.refl _ w) _) (by rw [World.size_alloc]; omega) hb1)
  have hl1 := Lib.hid (len_calls w1 (some ⟨g, 0, none⟩) (some b) 2 aF (.inr ⟨g, rfl, hg⟩) hm)
  have hdr := Lib.hid (drop_calls (w1.alloc (.cells #[.string ⟨#[65]⟩] 9)) (some ⟨g, 0, none⟩) (some b) 2 aF (some ⟨w1.heap.size, 0, none⟩) 1 [⟨#[65]⟩] (.inr ⟨g, rfl, blk_alloc hg _⟩) (hm.below (below_alloc (Below.refl _ w1) _)) (row_str (heap_alloc_new w1 _)) (fun k hk => by obtain rfl := List.mem_singleton.1 hk; unfold maxLen; decide) (by decide))
  have HFIN : Hid (([(⟨#[65]⟩ : ByteArray)].foldl dropS (2, aF)).1 = 1) := Lib.hid aDrop
  generalize ([(⟨#[65]⟩ : ByteArray)].foldl dropS (2, aF)) = fin at *
  clear hg hm hb1 hnew
  go_wp2_with (first
    | (go_at_call 38; refine hl1.out.mono ?_; clear hl1; rintro _ _ ⟨rfl, rfl⟩)
    | (go_at_call 39; refine hdr.out.mono ?_; clear hdr; rintro e2 w2 ⟨g2, b2, rfl, hg2, hm2, hb2⟩; have hl2 := Lib.hid (len_calls w2 (some ⟨g2, 0, none⟩) (some b2) fin.1 fin.2 (.inr ⟨g2, rfl, hg2⟩) hm2); rw [HFIN.out] at hl2; have HB2 := Lib.hid (below_then (below_alloc HB1.out _) (by rw [World.size_alloc]; have := HB1.out.size; omega) hb2); clear hg2 hm2 hb2)
    | (go_at_call 38; refine hl2.out.mono ?_; clear hl2; rintro _ _ ⟨rfl, rfl⟩))
  go_ret
  exact ⟨rfl, HB2.out⟩
end Go.Proofs.YtoiaancehakiiaaDoor.Q
/- The walk of a change; which definitions are few. -/
namespace Go.Proofs.YtoiaancehakiiaaDoor.Q
open Go.RowKit Go.Maps Go.Proofs.YtoiaancehakiiaaDoor.Plain Go.Proofs.YtoiaancehakiiaaDoorW.PrintWords

/-- a change: to drop a key, or to put a definition -/
structure ChgV where
  drop : Bool
  d : DefV
  key : ByteArray
def chgS (s : SnapS) (x : ChgV) : SnapS := if x.drop = true then dropS s x.key else (if (s.2 (keyD x.d)).isSome = true then s.1 else s.1 + 1, upd s.2 (keyD x.d) x.d)
def chgK (x : ChgV) : ByteArray := if x.drop = true then x.key else keyD x.d
theorem chg_comm (s : SnapS) (a b : ChgV) (h : chgK a ≠ chgK b) : (chgS (chgS s a) b).2 = (chgS (chgS s b) a).2 := by
  unfold chgK at h
  unfold chgS dropS
  funext k
  cases ha : a.drop <;> cases hb : b.drop <;> simp only [ha, hb, Bool.false_eq_true, if_false, if_true] at h ⊢
  all_goals
    simp only [upd, del]
    split <;> split <;> simp_all
theorem chg_count (s : SnapS) (a : ChgV) : (chgS s a).1 ≤ s.1 + 1 := by
  unfold chgS dropS
  split
  · simp only; split <;> omega
  · simp only; split <;> omega

def ChgPost (w : World) (s : SnapS) (e : Ending) (w' : World) : Prop :=
  ∃ g b, e = .returned (.pointer (some ⟨g, 0, none⟩)) ∧ w'.heap[g]? = some (.cells #[.map (some b)] 69 (0, 0)) ∧ MapAt w' b s.1 s.2 ∧ Below w.heap.size w w'

set_option maxHeartbeats 2000000 in
set_option maxRecDepth 100000 in
theorem changed_calls (w : World) (p : Option Addr) (m : Option Nat) (n : Nat) (F : ByteArray → Option DefV) (x : ChgV) (A : Option Addr) (c : Nat) (hp : SnapM w p m) (hs : SrcMap w m n F) (hC : Kd.string.C w A x.d.vars.length x.d.vars) (hc : x.d.vars.length ≤ c) (hb : Bd x.d) (hr : x.drop = true ∨ rightD x.d = true) (hk : x.key.size ≤ maxLen) (hroom : n < 500) :
    Calls Tryd.prog 19 #[.pointer p, .agg #[.bool x.drop, .int .i64 x.d.kind, .string x.d.cls, .string x.d.sup, .slice A x.d.vars.length c, .string x.d.sel, .string x.d.src, .string x.key]] w (ChgPost w (chgS (n, F) x)) := by
  obtain ⟨dr, d, key⟩ := x
  simp only at hC hc hb hr hk ⊢
  cases dr
  · have hr' : rightD d = true := hr.resolve_left (by simp)
    have hput : Hid (∀ W, Below w.heap.size w W → Calls Tryd.prog 46 #[.pointer p, .agg #[.int .i64 d.kind, .string d.cls, .string d.sup, .slice A d.vars.length c, .string d.sel, .string d.src]] W (PutPost W n F d (keyD d))) :=
      Lib.hid (fun W hW => put_ok W p m n F d A c (hp.below hW) (hs.below hW) (Kd.C_below hC hW) hc hb hr' hroom)
    clear hp hs hC hb hr hr' hk hroom
    go_enter Tryd.func19, Tryd.ntmps19
    go_wp2_with (go_at_call 46; refine (hput.out _ (below_alloc (Below.refl _ w) _)).mono ?_; rintro e1 w1 ⟨g, b, rfl, hg1, hm1, hb1⟩; have HG1 := Lib.hid hg1; have HM1 := Lib.hid hm1; have HB1 := Lib.hid (below_then (below_alloc (Below.refl _ w) _) (by rw [World.size_alloc]; omega) hb1); clear hg1 hm1 hb1)
    go_ret
    exact ⟨g, b, rfl, HG1.out, HM1.out, HB1.out⟩
  · have hdr : Hid (∀ W A', Below w.heap.size w W → Kd.string.C W A' 1 [key] → Calls Tryd.prog 39 #[.pointer p, .slice A' 1 1] W (DropPost W (dropS (n, F) key).1 (dropS (n, F) key).2)) :=
      Lib.hid (fun W A' hW hC' => drop_calls W p m n F A' 1 [key] (hp.below hW) (hs.below hW) hC' (fun k hk' => by obtain rfl := List.mem_singleton.1 hk'; exact hk) (by omega))
    clear hp hs hC hb hr hk hroom
    go_enter Tryd.func19, Tryd.ntmps19
    go_wp2_with (go_at_call 39; refine (hdr.out _ _ (below_alloc (below_alloc (Below.refl _ w) _) _) (row_str (alloc_second w _ _))).mono ?_; rintro e1 w1 ⟨g, b, rfl, hg1, hm1, hb1⟩; have HG1 := Lib.hid hg1; have HM1 := Lib.hid hm1; have HB1 := Lib.hid (Fr.below_two w _ _ hb1); clear hg1 hm1 hb1)
    go_ret
    exact ⟨g, b, rfl, HG1.out, HM1.out, HB1.out⟩

theorem few_at (l : List S31) (hl : l.length ≤ 9223372036854775806) (d : Nat) : ∀ (k i : Nat), l.length - i = d → i ≤ l.length → d + 40 < k → monticuleref07_Few.l0 k l (i : Int) = some ((l.drop i).all fun x => smallD (dv x)) := by
  induction d with
  | zero =>
    intro k i hd hi hk
    obtain ⟨k, rfl⟩ : ∃ m, k = m + 1 := ⟨k - 1, by omega⟩
    simp only [monticuleref07_Few.l0]
    rw [if_neg (by omega), List.drop_eq_nil_of_le (by omega)]
    rfl
  | succ d ih =>
    intro k i hd hi hk
    obtain ⟨k, rfl⟩ : ∃ m, k = m + 1 := ⟨k - 1, by omega⟩
    simp only [monticuleref07_Few.l0]
    have hlt : i < l.length := by omega
    rw [if_pos (by omega), if_pos (by omega)]
    have hx : rd_T31 l (i : Int) = l[i] := by simp [rd_T31, List.getD_eq_getElem?_getD, hlt]
    have hsm := small_ok k (dv (rd_T31 l (i : Int))) (by omega)
    change monticuleref07_Small.f k (rd_T31 l (i : Int)).f0 (rd_T31 l (i : Int)).f1 (rd_T31 l (i : Int)).f2 (rd_T31 l (i : Int)).f3 (rd_T31 l (i : Int)).f4 (rd_T31 l (i : Int)).f5 = _ at hsm
    rw [hsm]
    simp only [Option.bind_some]
    rw [List.drop_eq_getElem_cons hlt, List.all_cons, ← hx]
    cases hs : smallD (dv (rd_T31 l (i : Int)))
    · simp
    · simp only [if_true, Bool.true_and]
      rw [w64 i (by omega)]
      exact ih k (i + 1) (by omega) (by omega) (by omega)
theorem few_ok (l : List S31) (k most : Nat) (hm : most ≤ 1000) (hk : l.length + 41 < k) : monticuleref07_Few.f k l (most : Int) = some (decide (l.length ≤ most) && l.all fun x => smallD (dv x)) := by
  unfold monticuleref07_Few.f
  by_cases h : l.length ≤ most
  · rw [if_neg (by omega), decide_eq_true h, Bool.true_and]
    have := few_at l (by omega) l.length k 0 (by omega) (by omega) (by omega)
    simpa using this
  · rw [if_pos (by omega), decide_eq_false h, Bool.false_and]
theorem small_bd {d : DefV} (h : smallD d = true) : Bd d := by
  unfold smallD at h
  simp only [Bool.and_eq_true, decide_eq_true_eq] at h
  exact ⟨by omega, by omega, by omega⟩
theorem newGo_err (l : List DefV) : ∀ (s : SnapS) (c : Int), newGo l s = .inl c → c = 31 ∨ c = 45 := by
  induction l with
  | nil => intro s c h; cases h
  | cons d r ih =>
    intro s c h
    unfold newGo at h
    split at h
    · exact .inl (Sum.inl.inj h).symm
    split at h
    · exact .inr (Sum.inl.inj h).symm
    · exact ih _ _ h
theorem newGo_count (l : List DefV) : ∀ (s t : SnapS), newGo l s = .inr t → t.1 = s.1 + l.length := by
  induction l with
  | nil => intro s t h; cases h; simp
  | cons d r ih =>
    intro s t h
    unfold newGo at h
    split at h
    · cases h
    split at h
    · cases h
    · rw [ih _ _ h]; simp; omega
end Go.Proofs.YtoiaancehakiiaaDoor.Q
/- What a row's reading of definitions gives: a list of them in memory; a change of a snapshot. -/
namespace Go.Proofs.YtoiaancehakiiaaDoor.Q
open Go.ChangeShapes Go.WideShapes Go.ChangeAt Go.RowKit Go.Lib
open Go.Proofs.YtoiaancehakiiaaDoorW.PrintWords Go.Shelf Go.Deep

section
variable {H : Type} {enc : TypeId × Value → H} {W : World} {base : Nat} {spare : Nat → Bool} {hd : Bool}
theorem add_twice (a : Addr) (i j : Nat) : (a.add i).add j = a.add (i + j) := by
  unfold Addr.add
  by_cases hi : i = 0 <;> by_cases hj : j = 0 <;> simp [hi, hj, Nat.add_assoc]

set_option maxRecDepth 100000 in
theorem trod_six {fuel : Nat} {cs : List Value} {x : DataW H × List MemPlace} {t : TypeId} {f0 f1 f2 f3 f4 f5 : Field} (hs : Tryd.prog.underlying t = some (.struct #[f0, f1, f2, f3, f4, f5])) (hone : oneCellFields Tryd.prog #[f0, f1, f2, f3, f4, f5] = true) (hC : Tryd.prog.cellsOf t = 6)
    (h : DataW.trod enc Tryd.prog W base spare hd fuel t cs = some x) :
    ∃ (v0 v1 v2 v3 v4 v5 : Value) (y0 y1 y2 y3 y4 y5 : DataW H × List MemPlace) (n : Nat), cs = [v0, v1, v2, v3, v4, v5] ∧
      DataW.trod enc Tryd.prog W base spare hd n f0.type [v0] = some y0 ∧ DataW.trod enc Tryd.prog W base spare hd n f1.type [v1] = some y1 ∧ DataW.trod enc Tryd.prog W base spare hd n f2.type [v2] = some y2 ∧
      DataW.trod enc Tryd.prog W base spare hd n f3.type [v3] = some y3 ∧ DataW.trod enc Tryd.prog W base spare hd n f4.type [v4] = some y4 ∧ DataW.trod enc Tryd.prog W base spare hd n f5.type [v5] = some y5 := by
  obtain ⟨xs, n, _, hx, hl, hlen, hfld⟩ := DataW.trod_struct hs h
  have h6 : cs.length = 6 := hl.trans hC
  match cs, h6 with
  | [c0, c1, c2, c3, c4, c5], _ =>
    match xs, hlen with
    | [y0, y1, y2, y3, y4, y5], _ =>
      obtain ⟨o0, k0⟩ := hone_of hone 0 f0 rfl
      obtain ⟨o1, k1⟩ := hone_of hone 1 f1 rfl
      obtain ⟨o2, k2⟩ := hone_of hone 2 f2 rfl
      obtain ⟨o3, k3⟩ := hone_of hone 3 f3 rfl
      obtain ⟨o4, k4⟩ := hone_of hone 4 f4 rfl
      obtain ⟨o5, k5⟩ := hone_of hone 5 f5 rfl
      exact ⟨c0, c1, c2, c3, c4, c5, y0, y1, y2, y3, y4, y5, n, rfl, by simpa [o0, k0] using hfld 0 f0 rfl, by simpa [o1, k1] using hfld 1 f1 rfl, by simpa [o2, k2] using hfld 2 f2 rfl, by simpa [o3, k3] using hfld 3 f3 rfl, by simpa [o4, k4] using hfld 4 f4 rfl, by simpa [o5, k5] using hfld 5 f5 rfl⟩

set_option maxRecDepth 100000 in
theorem trod_strs {n : Nat} {v : Value} {y : DataW H × List MemPlace} (h3 : DataW.trod enc Tryd.prog W 0 (fun _ => true) hd n 29 [v] = some y) :
    ∃ (l : List ByteArray) (A : Option Addr) (c : Nat), v = .slice A l.length c ∧ l.length ≤ c ∧ Kd.string.C W A l.length l := by
  rcases open_strings Tryd.underlying29 Tryd.underlying9 (by kernel_rfl) h3 with ⟨e3, _⟩ | ⟨a, len, cap, ss, e3, _, hl, hm, hz, _, hcell, _⟩
  · obtain rfl := (List.cons.inj e3).1
    exact ⟨[], none, 0, rfl, Nat.le_refl _, Kd.C_nil Kd.string W⟩
  · obtain rfl := (List.cons.inj e3).1
    have hz2 : ss.length = cap := by simpa using hz
    have hlen : (ss.take len).length = len := by rw [List.length_take]; omega
    refine ⟨ss.take len, some a, cap, by rw [hlen], by rw [hlen]; exact hl, ?_⟩
    have hml : len ≤ 9223372036854775807 := Nat.le_trans hl hm
    rw [hlen]
    refine Kd.C_of_reads (enc := Value.string) (d := ByteArray.empty) (h1 := fun _ => rfl) ⟨hlen, hml, fun _ => ⟨a, rfl, fun j hj => ?_⟩⟩
    rw [hcell j (by omega)]
    simp [List.getD_eq_getElem?_getD, hj]

set_option maxRecDepth 100000 in
theorem trod_def {fuel : Nat} {cs : List Value} {x : DataW H × List MemPlace} (h : DataW.trod enc Tryd.prog W 0 (fun _ => true) hd fuel 31 cs = some x) :
    ∃ (D : DefV) (A : Option Addr) (c : Nat), cs = [.int .i64 D.kind, .string D.cls, .string D.sup, .slice A D.vars.length c, .string D.sel, .string D.src] ∧ D.vars.length ≤ c ∧ Kd.string.C W A D.vars.length D.vars := by
  obtain ⟨v0, v1, v2, v3, v4, v5, y0, y1, y2, y3, y4, y5, n, rfl, h0, h1, h2, h3, h4, h5⟩ := trod_six Tryd.underlying31 (by kernel_rfl) (by kernel_rfl) h
  obtain ⟨kind, e0, _⟩ := DataW.trod_int Tryd.underlying3 h0
  obtain ⟨cls, e1, _⟩ := DataW.trod_string Tryd.underlying9 h1
  obtain ⟨sup, e2, _⟩ := DataW.trod_string Tryd.underlying9 h2
  obtain ⟨sel, e4, _⟩ := DataW.trod_string Tryd.underlying9 h4
  obtain ⟨src, e5, _⟩ := DataW.trod_string Tryd.underlying9 h5
  obtain rfl := (List.cons.inj e0).1
  obtain rfl := (List.cons.inj e1).1
  obtain rfl := (List.cons.inj e2).1
  obtain rfl := (List.cons.inj e4).1
  obtain rfl := (List.cons.inj e5).1
  obtain ⟨l, A, c, rfl, hc, hC⟩ := trod_strs h3
  exact ⟨⟨kind, cls, sup, l, sel, src⟩, A, c, rfl, hc, hC⟩

set_option maxRecDepth 100000 in
theorem open_defs {fuel : Nat} {cs : List Value} {x : DataW H × List MemPlace} (h : DataW.trod enc Tryd.prog W 0 (fun _ => true) hd fuel 41 cs = some x) :
    ∃ (l : List S31) (A : Option Addr) (c : Nat), cs = [.slice A l.length c] ∧ l.length ≤ c ∧ Kd.C k31 W A l.length l := by
  rcases open_slice Tryd.underlying41 h with ⟨rfl, _⟩ | ⟨a, len, cap, m, n, D, Pl, rfl, _, hl, hm, hmm, _, hi⟩
  · exact ⟨[], none, 0, rfl, Nat.le_refl _, Kd.C_nil _ W⟩
  · have hC6 : Tryd.prog.cellsOf 31 = 6 := by kernel_rfl
    have hmm' : m = cap := by simpa using hmm
    have hall : ∀ i, ∃ s : S31, i < len → ∃ A3 c3, s.f3.length ≤ c3 ∧ Kd.string.C W A3 s.f3.length s.f3 ∧ ∀ j u, [Value.int .i64 s.f0, .string s.f1, .string s.f2, .slice A3 s.f3.length c3, .string s.f4, .string s.f5][j]? = some u → W.cell? (a.add (i * 6 + j)) = some u := by
      intro i
      by_cases hlt : i < len
      · obtain ⟨cs', hcs, htr⟩ := hi i (by omega)
        rw [hC6] at hcs
        obtain ⟨d, A3, c3, rfl, hc3, hC3⟩ := trod_def htr
        obtain ⟨_, hlen, hat⟩ := World.cells?_some hcs
        refine ⟨sd d, fun _ => ⟨A3, c3, hc3, hC3, fun j u hu => ?_⟩⟩
        have hj : j < 6 := by
          have := (List.getElem?_eq_some_iff.1 hu).1
          simpa using this
        rw [← add_twice, hat j hj]
        exact hu
      · exact ⟨z31, fun h => absurd h hlt⟩
    have hch := Classical.axiomOfChoice hall
    obtain ⟨f, hf⟩ := hch
    refine ⟨(List.range len).map f, some a, cap, by simp, by simpa using hl, ?_⟩
    have hlen : ((List.range len).map f).length = len := by simp
    rw [hlen]
    refine ⟨hlen, Nat.le_trans hl hm, fun _ => ⟨a, rfl, fun j p hj => ?_⟩⟩
    have hjl : j < len := by
      have := (List.getElem?_eq_some_iff.1 hj).1
      simpa using this
    have hp : f j = p := by simpa [hjl] using hj
    obtain ⟨A3, c3, hc3, hC3, hcell⟩ := hf j hjl
    rw [hp] at hc3 hC3 hcell
    exact ⟨_, rfl, k31_mk W p hc3 hC3, hcell⟩

set_option maxRecDepth 100000 in
theorem open_change {v : Value} {d : DataW H} {p : List MemPlace} {b0 : Nat} (hv : Value.okWide Tryd.prog W .any b0 43 v) (h : DataW.Trod enc Tryd.prog W 0 (fun _ => true) true 43 v d p) :
    ∃ (x : ChgV) (A : Option Addr) (c : Nat), v = .agg #[.bool x.drop, .int .i64 x.d.kind, .string x.d.cls, .string x.d.sup, .slice A x.d.vars.length c, .string x.d.sel, .string x.d.src, .string x.key] ∧ x.d.vars.length ≤ c ∧ Kd.string.C W A x.d.vars.length x.d.vars := by
  obtain ⟨cs, rfl, hsz⟩ := okWide_struct Tryd.underlying43 hv
  obtain ⟨l⟩ := cs
  have h8 : l.length = 8 := hsz.trans (by kernel_rfl)
  match l, h8 with
  | [c0, c1, c2, c3, c4, c5, c6, c7], _ =>
    obtain ⟨fuel, hf⟩ := h
    obtain ⟨xs, n, _, hx, hl, hlen, hfld⟩ := DataW.trod_struct Tryd.underlying43 hf
    match xs, hlen with
    | [y0, y1, y2], _ =>
      have e0 := hfld 0 _ rfl
      have e1 := hfld 1 _ rfl
      have e2 := hfld 2 _ rfl
      have k0 : Tryd.prog.cellsOf 4 = 1 := by kernel_rfl
      have k1 : Tryd.prog.cellsOf 31 = 6 := by kernel_rfl
      have k2 : Tryd.prog.cellsOf 9 = 1 := by kernel_rfl
      simp only [Value.cells] at e0 e1 e2
      obtain ⟨dr, hdr, _⟩ := DataW.trod_bool Tryd.underlying4 (x := y0) (by simpa [k0] using e0)
      obtain ⟨D, A, c, hD, hc, hC⟩ := trod_def (x := y1) (by simpa [k1] using e1)
      obtain ⟨key, hkey, _⟩ := DataW.trod_string Tryd.underlying9 (x := y2) (by simpa [k2] using e2)
      simp at hdr hD hkey
      obtain ⟨rfl, rfl, rfl, rfl, rfl, rfl⟩ := hD
      subst hdr hkey
      exact ⟨⟨dr, D, key⟩, A, c, rfl, hc, hC⟩
end
end Go.Proofs.YtoiaancehakiiaaDoor.Q
/- The walk of the law SnapOrders. Printed by wip/tools/gen_orders.py. -/
namespace Go.Proofs.YtoiaancehakiiaaDoor.Q
open Go.RowKit Go.Maps Go.Proofs.YtoiaancehakiiaaDoor.Plain Go.Proofs.YtoiaancehakiiaaDoorW.PrintWords

def fewB (l : List S31) : Bool := decide (l.length ≤ 10) && l.all fun x => smallD (dv x)
set_option maxRecDepth 100000 in
set_option maxHeartbeats 4000000 in
theorem orders_b1 (w : World) (A0 : Option Addr) (c0 : Nat) (l : List S31) (a b : ChgV) (Aa Ab : Option Addr) (ca cb : Nat) (hC0 : Kd.C k31 w A0 l.length l) (hc0 : l.length ≤ c0) (hCa : Kd.string.C w Aa a.d.vars.length a.d.vars) (hca : a.d.vars.length ≤ ca) (hCb : Kd.string.C w Ab b.d.vars.length b.d.vars) (hcb : b.d.vars.length ≤ cb) (hfv : fewB l = false) :
    Calls Tryd.prog 4 #[.slice A0 l.length c0, .agg #[.bool a.drop, .int .i64 a.d.kind, .string a.d.cls, .string a.d.sup, .slice Aa a.d.vars.length ca, .string a.d.sel, .string a.d.src, .string a.key], .agg #[.bool b.drop, .int .i64 b.d.kind, .string b.d.cls, .string b.d.sup, .slice Ab b.d.vars.length cb, .string b.d.sel, .string b.d.src, .string b.key]] w fun e w' => e = .returned (.bool true) ∧ Below w.heap.size w w' := by
  have _u := And.intro hC0 (And.intro hc0 (And.intro hCa (And.intro hca (And.intro hCb hcb))))
  clear _u
  have hfew : Hid (∀ W, Below w.heap.size w W → Calls Tryd.prog 14 #[.slice A0 l.length c0, .int .i64 10] W fun e w' => e = .returned (.bool false) ∧ Below W.heap.size W w') := Lib.hid (fun W hW => monticuleref07_Few.calls (l.length + 42) A0 c0 l 10 false W (Kd.C_below hC0 hW) hc0 (by rw [← hfv]; exact few_ok l (l.length + 42) 10 (by decide) (by omega)))
  clear hfv
  have tok1 : True := trivial
  clear hC0 hc0 hCa hCb hca hcb
  go_enter Tryd.func4, Tryd.ntmps4
  go_wp2_with (first
    | (go_at_call 13; have _t := tok1; refine (snap_awake _).mono ?_; rintro e0 w0 ⟨rfl, hb0⟩; have HB0 := Lib.hid (Fr.below_two w _ _ hb0); have HPa0 := Lib.hid ((hb0.block w.heap.size (by rw [World.size_alloc, World.size_alloc]; omega)).trans (blk_alloc (heap_alloc_new w (.cells #[.bool a.drop, .int .i64 a.d.kind, .string a.d.cls, .string a.d.sup, .slice Aa a.d.vars.length ca, .string a.d.sel, .string a.d.src, .string a.key] 43)) _)); have HPb0 := Lib.hid ((hb0.block (w.heap.size + 1) (by rw [World.size_alloc, World.size_alloc]; omega)).trans (alloc_second w _ (.cells #[.bool b.drop, .int .i64 b.d.kind, .string b.d.cls, .string b.d.sup, .slice Ab b.d.vars.length cb, .string b.d.sel, .string b.d.src, .string b.key] 43))); have qa0 := fun i => blk_cell HPa0.out i; have qb0 := fun i => blk_cell HPb0.out i; clear hb0 tok1 _t)
    | (go_at_call 14; refine (hfew.out _ HB0.out).mono ?_; rintro e1 w1 ⟨rfl, hb1⟩; have HB1 := Lib.hid (below_then HB0.out HB0.out.size hb1); have HPa1 := Lib.hid ((hb1.block _ (blk_lt HPa0.out)).trans HPa0.out); have HPb1 := Lib.hid ((hb1.block _ (blk_lt HPb0.out)).trans HPb0.out); have qa1 := fun i => blk_cell HPa1.out i; have qb1 := fun i => blk_cell HPb1.out i; clear qa0 qb0; clear hb1 hfew)
    | (go_at_call 13; refine (snap_awake _).mono ?_; rintro e9 w9 ⟨rfl, hb9⟩; have HB9 := Lib.hid (below_then (by first | exact HB3.out | exact HB2.out | exact HB1.out) (by first | exact HB3.out.size | exact HB2.out.size | exact HB1.out.size) hb9)))
  go_ret
  exact ⟨rfl, HB9.out⟩

set_option maxRecDepth 100000 in
set_option maxHeartbeats 4000000 in
theorem orders_b2 (w : World) (A0 : Option Addr) (c0 : Nat) (l : List S31) (a b : ChgV) (Aa Ab : Option Addr) (ca cb : Nat) (hC0 : Kd.C k31 w A0 l.length l) (hc0 : l.length ≤ c0) (hCa : Kd.string.C w Aa a.d.vars.length a.d.vars) (hca : a.d.vars.length ≤ ca) (hCb : Kd.string.C w Ab b.d.vars.length b.d.vars) (hcb : b.d.vars.length ≤ cb) (hfv : fewB l = true) (hsav : smallD a.d = false) :
    Calls Tryd.prog 4 #[.slice A0 l.length c0, .agg #[.bool a.drop, .int .i64 a.d.kind, .string a.d.cls, .string a.d.sup, .slice Aa a.d.vars.length ca, .string a.d.sel, .string a.d.src, .string a.key], .agg #[.bool b.drop, .int .i64 b.d.kind, .string b.d.cls, .string b.d.sup, .slice Ab b.d.vars.length cb, .string b.d.sel, .string b.d.src, .string b.key]] w fun e w' => e = .returned (.bool true) ∧ Below w.heap.size w w' := by
  have _u := And.intro hC0 (And.intro hc0 (And.intro hCa (And.intro hca (And.intro hCb hcb))))
  clear _u
  have hfew : Hid (∀ W, Below w.heap.size w W → Calls Tryd.prog 14 #[.slice A0 l.length c0, .int .i64 10] W fun e w' => e = .returned (.bool true) ∧ Below W.heap.size W w') := Lib.hid (fun W hW => monticuleref07_Few.calls (l.length + 42) A0 c0 l 10 true W (Kd.C_below hC0 hW) hc0 (by rw [← hfv]; exact few_ok l (l.length + 42) 10 (by decide) (by omega)))
  have hsa : Hid (∀ W, Below w.heap.size w W → Calls Tryd.prog 15 #[.agg #[.int .i64 a.d.kind, .string a.d.cls, .string a.d.sup, .slice Aa a.d.vars.length ca, .string a.d.sel, .string a.d.src]] W fun e w' => e = .returned (.bool false) ∧ Below W.heap.size W w') := Lib.hid (fun W hW => monticuleref07_Small.calls 33 a.d.kind a.d.cls a.d.sup Aa ca a.d.vars a.d.sel a.d.src false W (Kd.C_below hCa hW) hca (by rw [← hsav]; exact small_ok 33 a.d (by decide)))
  clear hfv hsav
  have tok1 : True := trivial
  clear hC0 hc0 hCa hCb hca hcb
  go_enter Tryd.func4, Tryd.ntmps4
  go_wp2_with (first
    | (go_at_call 13; have _t := tok1; refine (snap_awake _).mono ?_; rintro e0 w0 ⟨rfl, hb0⟩; have HB0 := Lib.hid (Fr.below_two w _ _ hb0); have HPa0 := Lib.hid ((hb0.block w.heap.size (by rw [World.size_alloc, World.size_alloc]; omega)).trans (blk_alloc (heap_alloc_new w (.cells #[.bool a.drop, .int .i64 a.d.kind, .string a.d.cls, .string a.d.sup, .slice Aa a.d.vars.length ca, .string a.d.sel, .string a.d.src, .string a.key] 43)) _)); have HPb0 := Lib.hid ((hb0.block (w.heap.size + 1) (by rw [World.size_alloc, World.size_alloc]; omega)).trans (alloc_second w _ (.cells #[.bool b.drop, .int .i64 b.d.kind, .string b.d.cls, .string b.d.sup, .slice Ab b.d.vars.length cb, .string b.d.sel, .string b.d.src, .string b.key] 43))); have qa0 := fun i => blk_cell HPa0.out i; have qb0 := fun i => blk_cell HPb0.out i; clear hb0 tok1 _t)
    | (go_at_call 14; refine (hfew.out _ HB0.out).mono ?_; rintro e1 w1 ⟨rfl, hb1⟩; have HB1 := Lib.hid (below_then HB0.out HB0.out.size hb1); have HPa1 := Lib.hid ((hb1.block _ (blk_lt HPa0.out)).trans HPa0.out); have HPb1 := Lib.hid ((hb1.block _ (blk_lt HPb0.out)).trans HPb0.out); have qa1 := fun i => blk_cell HPa1.out i; have qb1 := fun i => blk_cell HPb1.out i; clear qa0 qb0; clear hb1 hfew)
    | (go_at_call 15; refine (hsa.out _ HB1.out).mono ?_; rintro e2 w2 ⟨rfl, hb2⟩; have HB2 := Lib.hid (below_then HB1.out HB1.out.size hb2); have HPa2 := Lib.hid ((hb2.block _ (blk_lt HPa1.out)).trans HPa1.out); have HPb2 := Lib.hid ((hb2.block _ (blk_lt HPb1.out)).trans HPb1.out); have qa2 := fun i => blk_cell HPa2.out i; have qb2 := fun i => blk_cell HPb2.out i; clear qa1 qb1; clear hb2 hsa)
    | (go_at_call 13; refine (snap_awake _).mono ?_; rintro e9 w9 ⟨rfl, hb9⟩; have HB9 := Lib.hid (below_then (by first | exact HB3.out | exact HB2.out | exact HB1.out) (by first | exact HB3.out.size | exact HB2.out.size | exact HB1.out.size) hb9)))
  go_ret
  exact ⟨rfl, HB9.out⟩

set_option maxRecDepth 100000 in
set_option maxHeartbeats 4000000 in
theorem orders_b3 (w : World) (A0 : Option Addr) (c0 : Nat) (l : List S31) (a b : ChgV) (Aa Ab : Option Addr) (ca cb : Nat) (hC0 : Kd.C k31 w A0 l.length l) (hc0 : l.length ≤ c0) (hCa : Kd.string.C w Aa a.d.vars.length a.d.vars) (hca : a.d.vars.length ≤ ca) (hCb : Kd.string.C w Ab b.d.vars.length b.d.vars) (hcb : b.d.vars.length ≤ cb) (hfv : fewB l = true) (hsav : smallD a.d = true) (hsbv : smallD b.d = false) :
    Calls Tryd.prog 4 #[.slice A0 l.length c0, .agg #[.bool a.drop, .int .i64 a.d.kind, .string a.d.cls, .string a.d.sup, .slice Aa a.d.vars.length ca, .string a.d.sel, .string a.d.src, .string a.key], .agg #[.bool b.drop, .int .i64 b.d.kind, .string b.d.cls, .string b.d.sup, .slice Ab b.d.vars.length cb, .string b.d.sel, .string b.d.src, .string b.key]] w fun e w' => e = .returned (.bool true) ∧ Below w.heap.size w w' := by
  have _u := And.intro hC0 (And.intro hc0 (And.intro hCa (And.intro hca (And.intro hCb hcb))))
  clear _u
  have hfew : Hid (∀ W, Below w.heap.size w W → Calls Tryd.prog 14 #[.slice A0 l.length c0, .int .i64 10] W fun e w' => e = .returned (.bool true) ∧ Below W.heap.size W w') := Lib.hid (fun W hW => monticuleref07_Few.calls (l.length + 42) A0 c0 l 10 true W (Kd.C_below hC0 hW) hc0 (by rw [← hfv]; exact few_ok l (l.length + 42) 10 (by decide) (by omega)))
  have hsa : Hid (∀ W, Below w.heap.size w W → Calls Tryd.prog 15 #[.agg #[.int .i64 a.d.kind, .string a.d.cls, .string a.d.sup, .slice Aa a.d.vars.length ca, .string a.d.sel, .string a.d.src]] W fun e w' => e = .returned (.bool true) ∧ Below W.heap.size W w') := Lib.hid (fun W hW => monticuleref07_Small.calls 33 a.d.kind a.d.cls a.d.sup Aa ca a.d.vars a.d.sel a.d.src true W (Kd.C_below hCa hW) hca (by rw [← hsav]; exact small_ok 33 a.d (by decide)))
  have hsb : Hid (∀ W, Below w.heap.size w W → Calls Tryd.prog 15 #[.agg #[.int .i64 b.d.kind, .string b.d.cls, .string b.d.sup, .slice Ab b.d.vars.length cb, .string b.d.sel, .string b.d.src]] W fun e w' => e = .returned (.bool false) ∧ Below W.heap.size W w') := Lib.hid (fun W hW => monticuleref07_Small.calls 33 b.d.kind b.d.cls b.d.sup Ab cb b.d.vars b.d.sel b.d.src false W (Kd.C_below hCb hW) hcb (by rw [← hsbv]; exact small_ok 33 b.d (by decide)))
  clear hfv hsav hsbv
  have tok1 : True := trivial
  clear hC0 hc0 hCa hCb hca hcb
  go_enter Tryd.func4, Tryd.ntmps4
  go_wp2_with (first
    | (go_at_call 13; have _t := tok1; refine (snap_awake _).mono ?_; rintro e0 w0 ⟨rfl, hb0⟩; have HB0 := Lib.hid (Fr.below_two w _ _ hb0); have HPa0 := Lib.hid ((hb0.block w.heap.size (by rw [World.size_alloc, World.size_alloc]; omega)).trans (blk_alloc (heap_alloc_new w (.cells #[.bool a.drop, .int .i64 a.d.kind, .string a.d.cls, .string a.d.sup, .slice Aa a.d.vars.length ca, .string a.d.sel, .string a.d.src, .string a.key] 43)) _)); have HPb0 := Lib.hid ((hb0.block (w.heap.size + 1) (by rw [World.size_alloc, World.size_alloc]; omega)).trans (alloc_second w _ (.cells #[.bool b.drop, .int .i64 b.d.kind, .string b.d.cls, .string b.d.sup, .slice Ab b.d.vars.length cb, .string b.d.sel, .string b.d.src, .string b.key] 43))); have qa0 := fun i => blk_cell HPa0.out i; have qb0 := fun i => blk_cell HPb0.out i; clear hb0 tok1 _t)
    | (go_at_call 14; refine (hfew.out _ HB0.out).mono ?_; rintro e1 w1 ⟨rfl, hb1⟩; have HB1 := Lib.hid (below_then HB0.out HB0.out.size hb1); have HPa1 := Lib.hid ((hb1.block _ (blk_lt HPa0.out)).trans HPa0.out); have HPb1 := Lib.hid ((hb1.block _ (blk_lt HPb0.out)).trans HPb0.out); have qa1 := fun i => blk_cell HPa1.out i; have qb1 := fun i => blk_cell HPb1.out i; clear qa0 qb0; clear hb1 hfew)
    | (go_at_call 15; refine (hsa.out _ HB1.out).mono ?_; rintro e2 w2 ⟨rfl, hb2⟩; have HB2 := Lib.hid (below_then HB1.out HB1.out.size hb2); have HPa2 := Lib.hid ((hb2.block _ (blk_lt HPa1.out)).trans HPa1.out); have HPb2 := Lib.hid ((hb2.block _ (blk_lt HPb1.out)).trans HPb1.out); have qa2 := fun i => blk_cell HPa2.out i; have qb2 := fun i => blk_cell HPb2.out i; clear qa1 qb1; clear hb2 hsa)
    | (go_at_call 15; refine (hsb.out _ HB2.out).mono ?_; rintro e3 w3 ⟨rfl, hb3⟩; have HB3 := Lib.hid (below_then HB2.out HB2.out.size hb3); have HPa3 := Lib.hid ((hb3.block _ (blk_lt HPa2.out)).trans HPa2.out); have HPb3 := Lib.hid ((hb3.block _ (blk_lt HPb2.out)).trans HPb2.out); have qa3 := fun i => blk_cell HPa3.out i; have qb3 := fun i => blk_cell HPb3.out i; clear qa2 qb2; clear hb3 hsb)
    | (go_at_call 13; refine (snap_awake _).mono ?_; rintro e9 w9 ⟨rfl, hb9⟩; have HB9 := Lib.hid (below_then (by first | exact HB3.out | exact HB2.out | exact HB1.out) (by first | exact HB3.out.size | exact HB2.out.size | exact HB1.out.size) hb9)))
  go_ret
  exact ⟨rfl, HB9.out⟩

set_option maxRecDepth 100000 in
set_option maxHeartbeats 4000000 in
theorem orders_b4 (w : World) (A0 : Option Addr) (c0 : Nat) (l : List S31) (a b : ChgV) (Aa Ab : Option Addr) (ca cb : Nat) (hC0 : Kd.C k31 w A0 l.length l) (hc0 : l.length ≤ c0) (hCa : Kd.string.C w Aa a.d.vars.length a.d.vars) (hca : a.d.vars.length ≤ ca) (hCb : Kd.string.C w Ab b.d.vars.length b.d.vars) (hcb : b.d.vars.length ≤ cb) (hfv : fewB l = true) (hsav : smallD a.d = true) (hsbv : smallD b.d = true) (hka : (700 : Int) < (a.key.size : Int)) :
    Calls Tryd.prog 4 #[.slice A0 l.length c0, .agg #[.bool a.drop, .int .i64 a.d.kind, .string a.d.cls, .string a.d.sup, .slice Aa a.d.vars.length ca, .string a.d.sel, .string a.d.src, .string a.key], .agg #[.bool b.drop, .int .i64 b.d.kind, .string b.d.cls, .string b.d.sup, .slice Ab b.d.vars.length cb, .string b.d.sel, .string b.d.src, .string b.key]] w fun e w' => e = .returned (.bool true) ∧ Below w.heap.size w w' := by
  have _u := And.intro hC0 (And.intro hc0 (And.intro hCa (And.intro hca (And.intro hCb hcb))))
  clear _u
  have hfew : Hid (∀ W, Below w.heap.size w W → Calls Tryd.prog 14 #[.slice A0 l.length c0, .int .i64 10] W fun e w' => e = .returned (.bool true) ∧ Below W.heap.size W w') := Lib.hid (fun W hW => monticuleref07_Few.calls (l.length + 42) A0 c0 l 10 true W (Kd.C_below hC0 hW) hc0 (by rw [← hfv]; exact few_ok l (l.length + 42) 10 (by decide) (by omega)))
  have hsa : Hid (∀ W, Below w.heap.size w W → Calls Tryd.prog 15 #[.agg #[.int .i64 a.d.kind, .string a.d.cls, .string a.d.sup, .slice Aa a.d.vars.length ca, .string a.d.sel, .string a.d.src]] W fun e w' => e = .returned (.bool true) ∧ Below W.heap.size W w') := Lib.hid (fun W hW => monticuleref07_Small.calls 33 a.d.kind a.d.cls a.d.sup Aa ca a.d.vars a.d.sel a.d.src true W (Kd.C_below hCa hW) hca (by rw [← hsav]; exact small_ok 33 a.d (by decide)))
  have hsb : Hid (∀ W, Below w.heap.size w W → Calls Tryd.prog 15 #[.agg #[.int .i64 b.d.kind, .string b.d.cls, .string b.d.sup, .slice Ab b.d.vars.length cb, .string b.d.sel, .string b.d.src]] W fun e w' => e = .returned (.bool true) ∧ Below W.heap.size W w') := Lib.hid (fun W hW => monticuleref07_Small.calls 33 b.d.kind b.d.cls b.d.sup Ab cb b.d.vars b.d.sel b.d.src true W (Kd.C_below hCb hW) hcb (by rw [← hsbv]; exact small_ok 33 b.d (by decide)))
  clear hfv hsav hsbv
  have tok1 : True := trivial
  clear hC0 hc0 hCa hCb hca hcb
  go_enter Tryd.func4, Tryd.ntmps4
  go_wp2_with (first
    | (go_at_call 13; have _t := tok1; refine (snap_awake _).mono ?_; rintro e0 w0 ⟨rfl, hb0⟩; have HB0 := Lib.hid (Fr.below_two w _ _ hb0); have HPa0 := Lib.hid ((hb0.block w.heap.size (by rw [World.size_alloc, World.size_alloc]; omega)).trans (blk_alloc (heap_alloc_new w (.cells #[.bool a.drop, .int .i64 a.d.kind, .string a.d.cls, .string a.d.sup, .slice Aa a.d.vars.length ca, .string a.d.sel, .string a.d.src, .string a.key] 43)) _)); have HPb0 := Lib.hid ((hb0.block (w.heap.size + 1) (by rw [World.size_alloc, World.size_alloc]; omega)).trans (alloc_second w _ (.cells #[.bool b.drop, .int .i64 b.d.kind, .string b.d.cls, .string b.d.sup, .slice Ab b.d.vars.length cb, .string b.d.sel, .string b.d.src, .string b.key] 43))); have qa0 := fun i => blk_cell HPa0.out i; have qb0 := fun i => blk_cell HPb0.out i; clear hb0 tok1 _t)
    | (go_at_call 14; refine (hfew.out _ HB0.out).mono ?_; rintro e1 w1 ⟨rfl, hb1⟩; have HB1 := Lib.hid (below_then HB0.out HB0.out.size hb1); have HPa1 := Lib.hid ((hb1.block _ (blk_lt HPa0.out)).trans HPa0.out); have HPb1 := Lib.hid ((hb1.block _ (blk_lt HPb0.out)).trans HPb0.out); have qa1 := fun i => blk_cell HPa1.out i; have qb1 := fun i => blk_cell HPb1.out i; clear qa0 qb0; clear hb1 hfew)
    | (go_at_call 15; refine (hsa.out _ HB1.out).mono ?_; rintro e2 w2 ⟨rfl, hb2⟩; have HB2 := Lib.hid (below_then HB1.out HB1.out.size hb2); have HPa2 := Lib.hid ((hb2.block _ (blk_lt HPa1.out)).trans HPa1.out); have HPb2 := Lib.hid ((hb2.block _ (blk_lt HPb1.out)).trans HPb1.out); have qa2 := fun i => blk_cell HPa2.out i; have qb2 := fun i => blk_cell HPb2.out i; clear qa1 qb1; clear hb2 hsa)
    | (go_at_call 15; refine (hsb.out _ HB2.out).mono ?_; rintro e3 w3 ⟨rfl, hb3⟩; have HB3 := Lib.hid (below_then HB2.out HB2.out.size hb3); have HPa3 := Lib.hid ((hb3.block _ (blk_lt HPa2.out)).trans HPa2.out); have HPb3 := Lib.hid ((hb3.block _ (blk_lt HPb2.out)).trans HPb2.out); have qa3 := fun i => blk_cell HPa3.out i; have qb3 := fun i => blk_cell HPb3.out i; clear qa2 qb2; clear hb3 hsb)
    | (go_at_call 13; refine (snap_awake _).mono ?_; rintro e9 w9 ⟨rfl, hb9⟩; have HB9 := Lib.hid (below_then (by first | exact HB3.out | exact HB2.out | exact HB1.out) (by first | exact HB3.out.size | exact HB2.out.size | exact HB1.out.size) hb9)))
  go_ret
  exact ⟨rfl, HB9.out⟩

set_option maxRecDepth 100000 in
set_option maxHeartbeats 4000000 in
theorem orders_b5 (w : World) (A0 : Option Addr) (c0 : Nat) (l : List S31) (a b : ChgV) (Aa Ab : Option Addr) (ca cb : Nat) (hC0 : Kd.C k31 w A0 l.length l) (hc0 : l.length ≤ c0) (hCa : Kd.string.C w Aa a.d.vars.length a.d.vars) (hca : a.d.vars.length ≤ ca) (hCb : Kd.string.C w Ab b.d.vars.length b.d.vars) (hcb : b.d.vars.length ≤ cb) (hfv : fewB l = true) (hsav : smallD a.d = true) (hsbv : smallD b.d = true) (hka : ¬ (700 : Int) < (a.key.size : Int)) (hkb : (700 : Int) < (b.key.size : Int)) :
    Calls Tryd.prog 4 #[.slice A0 l.length c0, .agg #[.bool a.drop, .int .i64 a.d.kind, .string a.d.cls, .string a.d.sup, .slice Aa a.d.vars.length ca, .string a.d.sel, .string a.d.src, .string a.key], .agg #[.bool b.drop, .int .i64 b.d.kind, .string b.d.cls, .string b.d.sup, .slice Ab b.d.vars.length cb, .string b.d.sel, .string b.d.src, .string b.key]] w fun e w' => e = .returned (.bool true) ∧ Below w.heap.size w w' := by
  have _u := And.intro hC0 (And.intro hc0 (And.intro hCa (And.intro hca (And.intro hCb hcb))))
  clear _u
  have hfew : Hid (∀ W, Below w.heap.size w W → Calls Tryd.prog 14 #[.slice A0 l.length c0, .int .i64 10] W fun e w' => e = .returned (.bool true) ∧ Below W.heap.size W w') := Lib.hid (fun W hW => monticuleref07_Few.calls (l.length + 42) A0 c0 l 10 true W (Kd.C_below hC0 hW) hc0 (by rw [← hfv]; exact few_ok l (l.length + 42) 10 (by decide) (by omega)))
  have hsa : Hid (∀ W, Below w.heap.size w W → Calls Tryd.prog 15 #[.agg #[.int .i64 a.d.kind, .string a.d.cls, .string a.d.sup, .slice Aa a.d.vars.length ca, .string a.d.sel, .string a.d.src]] W fun e w' => e = .returned (.bool true) ∧ Below W.heap.size W w') := Lib.hid (fun W hW => monticuleref07_Small.calls 33 a.d.kind a.d.cls a.d.sup Aa ca a.d.vars a.d.sel a.d.src true W (Kd.C_below hCa hW) hca (by rw [← hsav]; exact small_ok 33 a.d (by decide)))
  have hsb : Hid (∀ W, Below w.heap.size w W → Calls Tryd.prog 15 #[.agg #[.int .i64 b.d.kind, .string b.d.cls, .string b.d.sup, .slice Ab b.d.vars.length cb, .string b.d.sel, .string b.d.src]] W fun e w' => e = .returned (.bool true) ∧ Below W.heap.size W w') := Lib.hid (fun W hW => monticuleref07_Small.calls 33 b.d.kind b.d.cls b.d.sup Ab cb b.d.vars b.d.sel b.d.src true W (Kd.C_below hCb hW) hcb (by rw [← hsbv]; exact small_ok 33 b.d (by decide)))
  clear hfv hsav hsbv
  have tok1 : True := trivial
  clear hC0 hc0 hCa hCb hca hcb
  go_enter Tryd.func4, Tryd.ntmps4
  go_wp2_with (first
    | (go_at_call 13; have _t := tok1; refine (snap_awake _).mono ?_; rintro e0 w0 ⟨rfl, hb0⟩; have HB0 := Lib.hid (Fr.below_two w _ _ hb0); have HPa0 := Lib.hid ((hb0.block w.heap.size (by rw [World.size_alloc, World.size_alloc]; omega)).trans (blk_alloc (heap_alloc_new w (.cells #[.bool a.drop, .int .i64 a.d.kind, .string a.d.cls, .string a.d.sup, .slice Aa a.d.vars.length ca, .string a.d.sel, .string a.d.src, .string a.key] 43)) _)); have HPb0 := Lib.hid ((hb0.block (w.heap.size + 1) (by rw [World.size_alloc, World.size_alloc]; omega)).trans (alloc_second w _ (.cells #[.bool b.drop, .int .i64 b.d.kind, .string b.d.cls, .string b.d.sup, .slice Ab b.d.vars.length cb, .string b.d.sel, .string b.d.src, .string b.key] 43))); have qa0 := fun i => blk_cell HPa0.out i; have qb0 := fun i => blk_cell HPb0.out i; clear hb0 tok1 _t)
    | (go_at_call 14; refine (hfew.out _ HB0.out).mono ?_; rintro e1 w1 ⟨rfl, hb1⟩; have HB1 := Lib.hid (below_then HB0.out HB0.out.size hb1); have HPa1 := Lib.hid ((hb1.block _ (blk_lt HPa0.out)).trans HPa0.out); have HPb1 := Lib.hid ((hb1.block _ (blk_lt HPb0.out)).trans HPb0.out); have qa1 := fun i => blk_cell HPa1.out i; have qb1 := fun i => blk_cell HPb1.out i; clear qa0 qb0; clear hb1 hfew)
    | (go_at_call 15; refine (hsa.out _ HB1.out).mono ?_; rintro e2 w2 ⟨rfl, hb2⟩; have HB2 := Lib.hid (below_then HB1.out HB1.out.size hb2); have HPa2 := Lib.hid ((hb2.block _ (blk_lt HPa1.out)).trans HPa1.out); have HPb2 := Lib.hid ((hb2.block _ (blk_lt HPb1.out)).trans HPb1.out); have qa2 := fun i => blk_cell HPa2.out i; have qb2 := fun i => blk_cell HPb2.out i; clear qa1 qb1; clear hb2 hsa)
    | (go_at_call 15; refine (hsb.out _ HB2.out).mono ?_; rintro e3 w3 ⟨rfl, hb3⟩; have HB3 := Lib.hid (below_then HB2.out HB2.out.size hb3); have HPa3 := Lib.hid ((hb3.block _ (blk_lt HPa2.out)).trans HPa2.out); have HPb3 := Lib.hid ((hb3.block _ (blk_lt HPb2.out)).trans HPb2.out); have qa3 := fun i => blk_cell HPa3.out i; have qb3 := fun i => blk_cell HPb3.out i; clear qa2 qb2; clear hb3 hsb)
    | (go_at_call 13; refine (snap_awake _).mono ?_; rintro e9 w9 ⟨rfl, hb9⟩; have HB9 := Lib.hid (below_then (by first | exact HB3.out | exact HB2.out | exact HB1.out) (by first | exact HB3.out.size | exact HB2.out.size | exact HB1.out.size) hb9)))
  go_ret
  exact ⟨rfl, HB9.out⟩

end Go.Proofs.YtoiaancehakiiaaDoor.Q
/- The walk of the law SnapOrders, behind its guards. Printed by wip/tools/gen_orders.py. -/
namespace Go.Proofs.YtoiaancehakiiaaDoor.Q
open Go.RowKit Go.Maps Go.Proofs.YtoiaancehakiiaaDoor.Plain Go.Proofs.YtoiaancehakiiaaDoorW.PrintWords

set_option maxRecDepth 100000 in
set_option maxHeartbeats 4000000 in
theorem orders_err (w : World) (A0 : Option Addr) (c0 : Nat) (l : List S31) (a b : ChgV) (Aa Ab : Option Addr) (ca cb : Nat) (hC0 : Kd.C k31 w A0 l.length l) (hc0 : l.length ≤ c0) (hCa : Kd.string.C w Aa a.d.vars.length a.d.vars) (hca : a.d.vars.length ≤ ca) (hCb : Kd.string.C w Ab b.d.vars.length b.d.vars) (hcb : b.d.vars.length ≤ cb) (hfv : fewB l = true) (hsav : smallD a.d = true) (hsbv : smallD b.d = true) (hka : ¬ (700 : Int) < (a.key.size : Int)) (hkb : ¬ (700 : Int) < (b.key.size : Int)) (c : Int) (hres : newGo (l.map dv) snap0 = .inl c) :
    Calls Tryd.prog 4 #[.slice A0 l.length c0, .agg #[.bool a.drop, .int .i64 a.d.kind, .string a.d.cls, .string a.d.sup, .slice Aa a.d.vars.length ca, .string a.d.sel, .string a.d.src, .string a.key], .agg #[.bool b.drop, .int .i64 b.d.kind, .string b.d.cls, .string b.d.sup, .slice Ab b.d.vars.length cb, .string b.d.sel, .string b.d.src, .string b.key]] w fun e w' => e = .returned (.bool true) ∧ Below w.heap.size w w' := by
  have hfew : Hid (∀ W, Below w.heap.size w W → Calls Tryd.prog 14 #[.slice A0 l.length c0, .int .i64 10] W fun e w' => e = .returned (.bool true) ∧ Below W.heap.size W w') := Lib.hid (fun W hW => monticuleref07_Few.calls (l.length + 42) A0 c0 l 10 true W (Kd.C_below hC0 hW) hc0 (by rw [← hfv]; exact few_ok l (l.length + 42) 10 (by decide) (by omega)))
  have hsa : Hid (∀ W, Below w.heap.size w W → Calls Tryd.prog 15 #[.agg #[.int .i64 a.d.kind, .string a.d.cls, .string a.d.sup, .slice Aa a.d.vars.length ca, .string a.d.sel, .string a.d.src]] W fun e w' => e = .returned (.bool true) ∧ Below W.heap.size W w') := Lib.hid (fun W hW => monticuleref07_Small.calls 33 a.d.kind a.d.cls a.d.sup Aa ca a.d.vars a.d.sel a.d.src true W (Kd.C_below hCa hW) hca (by rw [← hsav]; exact small_ok 33 a.d (by decide)))
  have hsb : Hid (∀ W, Below w.heap.size w W → Calls Tryd.prog 15 #[.agg #[.int .i64 b.d.kind, .string b.d.cls, .string b.d.sup, .slice Ab b.d.vars.length cb, .string b.d.sel, .string b.d.src]] W fun e w' => e = .returned (.bool true) ∧ Below W.heap.size W w') := Lib.hid (fun W hW => monticuleref07_Small.calls 33 b.d.kind b.d.cls b.d.sup Ab cb b.d.vars b.d.sel b.d.src true W (Kd.C_below hCb hW) hcb (by rw [← hsbv]; exact small_ok 33 b.d (by decide)))
  have hbd : ∀ x ∈ l, Bd (dv x) := fun x hx => small_bd (by have h := hfv; unfold fewB at h; rw [Bool.and_eq_true, List.all_eq_true] at h; exact h.2 x hx)
  have hl10 : l.length ≤ 10 := by have h := hfv; unfold fewB at h; rw [Bool.and_eq_true, decide_eq_true_eq] at h; exact h.1
  have hnew : Hid (∀ W, Below w.heap.size w W → Calls Tryd.prog 16 #[.slice A0 l.length c0] W (fun e w' => e = .returned (.tuple #[.pointer none, .int .i64 c]) ∧ Below W.heap.size W w')) := Lib.hid (fun W hW => (by have := new_calls W A0 c0 l (Kd.C_below hC0 hW) hbd (by omega); rw [hres] at this; exact this))
  have hcne : (c != 0) = true := by rw [bne_iff_ne]; rcases newGo_err _ _ _ hres with rfl | rfl <;> decide
  have tok1 : True := trivial
  clear hC0 hc0 hCa hCb hca hcb hfv hsav hsbv hbd hl10 hres
  go_enter Tryd.func4, Tryd.ntmps4
  go_wp2_with (first
    | (go_at_call 13; have _t := tok1; refine (snap_awake _).mono ?_; rintro e0 w0 ⟨rfl, hb0⟩; have HB0 := Lib.hid (Fr.below_two w _ _ hb0); have HPa0 := Lib.hid ((hb0.block w.heap.size (by rw [World.size_alloc, World.size_alloc]; omega)).trans (blk_alloc (heap_alloc_new w (.cells #[.bool a.drop, .int .i64 a.d.kind, .string a.d.cls, .string a.d.sup, .slice Aa a.d.vars.length ca, .string a.d.sel, .string a.d.src, .string a.key] 43)) _)); have HPb0 := Lib.hid ((hb0.block (w.heap.size + 1) (by rw [World.size_alloc, World.size_alloc]; omega)).trans (alloc_second w _ (.cells #[.bool b.drop, .int .i64 b.d.kind, .string b.d.cls, .string b.d.sup, .slice Ab b.d.vars.length cb, .string b.d.sel, .string b.d.src, .string b.key] 43))); have qa0 := fun i => blk_cell HPa0.out i; have qb0 := fun i => blk_cell HPb0.out i; clear hb0 tok1 _t)
    | (go_at_call 14; refine (hfew.out _ HB0.out).mono ?_; rintro e1 w1 ⟨rfl, hb1⟩; have HB1 := Lib.hid (below_then HB0.out HB0.out.size hb1); have HPa1 := Lib.hid ((hb1.block _ (blk_lt HPa0.out)).trans HPa0.out); have HPb1 := Lib.hid ((hb1.block _ (blk_lt HPb0.out)).trans HPb0.out); have qa1 := fun i => blk_cell HPa1.out i; have qb1 := fun i => blk_cell HPb1.out i; clear qa0 qb0; clear hb1 hfew)
    | (go_at_call 15; refine (hsa.out _ HB1.out).mono ?_; rintro e2 w2 ⟨rfl, hb2⟩; have HB2 := Lib.hid (below_then HB1.out HB1.out.size hb2); have HPa2 := Lib.hid ((hb2.block _ (blk_lt HPa1.out)).trans HPa1.out); have HPb2 := Lib.hid ((hb2.block _ (blk_lt HPb1.out)).trans HPb1.out); have qa2 := fun i => blk_cell HPa2.out i; have qb2 := fun i => blk_cell HPb2.out i; clear qa1 qb1; clear hb2 hsa)
    | (go_at_call 15; refine (hsb.out _ HB2.out).mono ?_; rintro e3 w3 ⟨rfl, hb3⟩; have HB3 := Lib.hid (below_then HB2.out HB2.out.size hb3); have HPa3 := Lib.hid ((hb3.block _ (blk_lt HPa2.out)).trans HPa2.out); have HPb3 := Lib.hid ((hb3.block _ (blk_lt HPb2.out)).trans HPb2.out); have qa3 := fun i => blk_cell HPa3.out i; have qb3 := fun i => blk_cell HPb3.out i; clear qa2 qb2; clear hb3 hsb)
    | (go_at_call 16; refine (hnew.out _ HB3.out).mono ?_; rintro e4 w4 ⟨rfl, hb4⟩; have HB4 := Lib.hid (below_then HB3.out HB3.out.size hb4); clear hb4 hnew))
  go_ret
  exact ⟨rfl, HB4.out⟩

set_option maxRecDepth 100000 in
set_option maxHeartbeats 4000000 in
theorem orders_wa_true (w : World) (A0 : Option Addr) (c0 : Nat) (l : List S31) (da db : DefV) (keya keyb : ByteArray) (Aa Ab : Option Addr) (ca cb : Nat) (hC0 : Kd.C k31 w A0 l.length l) (hc0 : l.length ≤ c0) (hCa : Kd.string.C w Aa da.vars.length da.vars) (hca : da.vars.length ≤ ca) (hCb : Kd.string.C w Ab db.vars.length db.vars) (hcb : db.vars.length ≤ cb) (hfv : fewB l = true) (hsav : smallD da = true) (hsbv : smallD db = true) (hka : ¬ (700 : Int) < (keya.size : Int)) (hkb : ¬ (700 : Int) < (keyb.size : Int)) (s : SnapS) (hres : newGo (l.map dv) snap0 = .inr s) (hra : rightD da = false) :
    Calls Tryd.prog 4 #[.slice A0 l.length c0, .agg #[.bool false, .int .i64 da.kind, .string da.cls, .string da.sup, .slice Aa da.vars.length ca, .string da.sel, .string da.src, .string keya], .agg #[.bool true, .int .i64 db.kind, .string db.cls, .string db.sup, .slice Ab db.vars.length cb, .string db.sel, .string db.src, .string keyb]] w fun e w' => e = .returned (.bool true) ∧ Below w.heap.size w w' := by
  have hfew : Hid (∀ W, Below w.heap.size w W → Calls Tryd.prog 14 #[.slice A0 l.length c0, .int .i64 10] W fun e w' => e = .returned (.bool true) ∧ Below W.heap.size W w') := Lib.hid (fun W hW => monticuleref07_Few.calls (l.length + 42) A0 c0 l 10 true W (Kd.C_below hC0 hW) hc0 (by rw [← hfv]; exact few_ok l (l.length + 42) 10 (by decide) (by omega)))
  have hsa : Hid (∀ W, Below w.heap.size w W → Calls Tryd.prog 15 #[.agg #[.int .i64 da.kind, .string da.cls, .string da.sup, .slice Aa da.vars.length ca, .string da.sel, .string da.src]] W fun e w' => e = .returned (.bool true) ∧ Below W.heap.size W w') := Lib.hid (fun W hW => monticuleref07_Small.calls 33 da.kind da.cls da.sup Aa ca da.vars da.sel da.src true W (Kd.C_below hCa hW) hca (by rw [← hsav]; exact small_ok 33 da (by decide)))
  have hsb : Hid (∀ W, Below w.heap.size w W → Calls Tryd.prog 15 #[.agg #[.int .i64 db.kind, .string db.cls, .string db.sup, .slice Ab db.vars.length cb, .string db.sel, .string db.src]] W fun e w' => e = .returned (.bool true) ∧ Below W.heap.size W w') := Lib.hid (fun W hW => monticuleref07_Small.calls 33 db.kind db.cls db.sup Ab cb db.vars db.sel db.src true W (Kd.C_below hCb hW) hcb (by rw [← hsbv]; exact small_ok 33 db (by decide)))
  have hbd : ∀ x ∈ l, Bd (dv x) := fun x hx => small_bd (by have h := hfv; unfold fewB at h; rw [Bool.and_eq_true, List.all_eq_true] at h; exact h.2 x hx)
  have hl10 : l.length ≤ 10 := by have h := hfv; unfold fewB at h; rw [Bool.and_eq_true, decide_eq_true_eq] at h; exact h.1
  have hnew : Hid (∀ W, Below w.heap.size w W → Calls Tryd.prog 16 #[.slice A0 l.length c0] W (fun e w' => ∃ g b, e = .returned (.tuple #[.pointer (some ⟨g, 0, none⟩), .int .i64 0]) ∧ w'.heap[g]? = some (.cells #[.map (some b)] 69 (0, 0)) ∧ MapAt w' b s.1 s.2 ∧ Below W.heap.size W w')) := Lib.hid (fun W hW => (by have := new_calls W A0 c0 l (Kd.C_below hC0 hW) hbd (by omega); rw [hres] at this; exact this))
  have hrta : Hid (∀ W, Below w.heap.size w W → Calls Tryd.prog 17 #[.agg #[.int .i64 da.kind, .string da.cls, .string da.sup, .slice Aa da.vars.length ca, .string da.sel, .string da.src]] W fun e w' => e = .returned (.bool false) ∧ Below W.heap.size W w') := Lib.hid (fun W hW => monticuleref07_Right.calls (2 * da.vars.length + 62) da.kind da.cls da.sup Aa ca da.vars da.sel da.src false W (Kd.C_below hCa hW) hca (by rw [← hra]; exact rright_ok (2 * da.vars.length + 62) da hCa.2.1 (small_bd hsav).sel (by omega)))
  have tok1 : True := trivial
  clear hC0 hc0 hCa hCb hca hcb hfv hsav hsbv hbd hl10 hres hra
  go_enter Tryd.func4, Tryd.ntmps4
  go_wp2_with (first
    | (go_at_call 13; have _t := tok1; refine (snap_awake _).mono ?_; rintro e0 w0 ⟨rfl, hb0⟩; have HB0 := Lib.hid (Fr.below_two w _ _ hb0); have HPa0 := Lib.hid ((hb0.block w.heap.size (by rw [World.size_alloc, World.size_alloc]; omega)).trans (blk_alloc (heap_alloc_new w (.cells #[.bool false, .int .i64 da.kind, .string da.cls, .string da.sup, .slice Aa da.vars.length ca, .string da.sel, .string da.src, .string keya] 43)) _)); have HPb0 := Lib.hid ((hb0.block (w.heap.size + 1) (by rw [World.size_alloc, World.size_alloc]; omega)).trans (alloc_second w _ (.cells #[.bool true, .int .i64 db.kind, .string db.cls, .string db.sup, .slice Ab db.vars.length cb, .string db.sel, .string db.src, .string keyb] 43))); have qa0 := fun i => blk_cell HPa0.out i; have qb0 := fun i => blk_cell HPb0.out i; clear hb0 tok1 _t)
    | (go_at_call 14; refine (hfew.out _ HB0.out).mono ?_; rintro e1 w1 ⟨rfl, hb1⟩; have HB1 := Lib.hid (below_then HB0.out HB0.out.size hb1); have HPa1 := Lib.hid ((hb1.block _ (blk_lt HPa0.out)).trans HPa0.out); have HPb1 := Lib.hid ((hb1.block _ (blk_lt HPb0.out)).trans HPb0.out); have qa1 := fun i => blk_cell HPa1.out i; have qb1 := fun i => blk_cell HPb1.out i; clear qa0 qb0; clear hb1 hfew)
    | (go_at_call 15; refine (hsa.out _ HB1.out).mono ?_; rintro e2 w2 ⟨rfl, hb2⟩; have HB2 := Lib.hid (below_then HB1.out HB1.out.size hb2); have HPa2 := Lib.hid ((hb2.block _ (blk_lt HPa1.out)).trans HPa1.out); have HPb2 := Lib.hid ((hb2.block _ (blk_lt HPb1.out)).trans HPb1.out); have qa2 := fun i => blk_cell HPa2.out i; have qb2 := fun i => blk_cell HPb2.out i; clear qa1 qb1; clear hb2 hsa)
    | (go_at_call 15; refine (hsb.out _ HB2.out).mono ?_; rintro e3 w3 ⟨rfl, hb3⟩; have HB3 := Lib.hid (below_then HB2.out HB2.out.size hb3); have HPa3 := Lib.hid ((hb3.block _ (blk_lt HPa2.out)).trans HPa2.out); have HPb3 := Lib.hid ((hb3.block _ (blk_lt HPb2.out)).trans HPb2.out); have qa3 := fun i => blk_cell HPa3.out i; have qb3 := fun i => blk_cell HPb3.out i; clear qa2 qb2; clear hb3 hsb)
    | (go_at_call 16; refine (hnew.out _ HB3.out).mono ?_; rintro e4 w4 ⟨g, bm, rfl, hg4, hm4, hb4⟩; have HB4 := Lib.hid (below_then HB3.out HB3.out.size hb4); have HG4 := Lib.hid hg4; have HM4 := Lib.hid hm4; have HPa4 := Lib.hid ((hb4.block _ (blk_lt HPa3.out)).trans HPa3.out); have HPb4 := Lib.hid ((hb4.block _ (blk_lt HPb3.out)).trans HPb3.out); have qa4 := fun i => blk_cell HPa4.out i; have qb4 := fun i => blk_cell HPb4.out i; clear qa3 qb3; clear hb4 hnew hg4 hm4)
    | (go_at_call 17; refine (hrta.out _ HB4.out).mono ?_; rintro e5 w5 ⟨rfl, hb5⟩; have HB5 := Lib.hid (below_then HB4.out HB4.out.size hb5); have HBN5 := Lib.hid (hb5); have HPa5 := Lib.hid ((hb5.block _ (blk_lt HPa4.out)).trans HPa4.out); have HPb5 := Lib.hid ((hb5.block _ (blk_lt HPb4.out)).trans HPb4.out); have qa5 := fun i => blk_cell HPa5.out i; have qb5 := fun i => blk_cell HPb5.out i; clear qa4 qb4; clear hb5 hrta))
  go_ret
  exact ⟨rfl, HB5.out⟩

set_option maxRecDepth 100000 in
set_option maxHeartbeats 4000000 in
theorem orders_wa_false (w : World) (A0 : Option Addr) (c0 : Nat) (l : List S31) (da db : DefV) (keya keyb : ByteArray) (Aa Ab : Option Addr) (ca cb : Nat) (hC0 : Kd.C k31 w A0 l.length l) (hc0 : l.length ≤ c0) (hCa : Kd.string.C w Aa da.vars.length da.vars) (hca : da.vars.length ≤ ca) (hCb : Kd.string.C w Ab db.vars.length db.vars) (hcb : db.vars.length ≤ cb) (hfv : fewB l = true) (hsav : smallD da = true) (hsbv : smallD db = true) (hka : ¬ (700 : Int) < (keya.size : Int)) (hkb : ¬ (700 : Int) < (keyb.size : Int)) (s : SnapS) (hres : newGo (l.map dv) snap0 = .inr s) (hra : rightD da = false) :
    Calls Tryd.prog 4 #[.slice A0 l.length c0, .agg #[.bool false, .int .i64 da.kind, .string da.cls, .string da.sup, .slice Aa da.vars.length ca, .string da.sel, .string da.src, .string keya], .agg #[.bool false, .int .i64 db.kind, .string db.cls, .string db.sup, .slice Ab db.vars.length cb, .string db.sel, .string db.src, .string keyb]] w fun e w' => e = .returned (.bool true) ∧ Below w.heap.size w w' := by
  have hfew : Hid (∀ W, Below w.heap.size w W → Calls Tryd.prog 14 #[.slice A0 l.length c0, .int .i64 10] W fun e w' => e = .returned (.bool true) ∧ Below W.heap.size W w') := Lib.hid (fun W hW => monticuleref07_Few.calls (l.length + 42) A0 c0 l 10 true W (Kd.C_below hC0 hW) hc0 (by rw [← hfv]; exact few_ok l (l.length + 42) 10 (by decide) (by omega)))
  have hsa : Hid (∀ W, Below w.heap.size w W → Calls Tryd.prog 15 #[.agg #[.int .i64 da.kind, .string da.cls, .string da.sup, .slice Aa da.vars.length ca, .string da.sel, .string da.src]] W fun e w' => e = .returned (.bool true) ∧ Below W.heap.size W w') := Lib.hid (fun W hW => monticuleref07_Small.calls 33 da.kind da.cls da.sup Aa ca da.vars da.sel da.src true W (Kd.C_below hCa hW) hca (by rw [← hsav]; exact small_ok 33 da (by decide)))
  have hsb : Hid (∀ W, Below w.heap.size w W → Calls Tryd.prog 15 #[.agg #[.int .i64 db.kind, .string db.cls, .string db.sup, .slice Ab db.vars.length cb, .string db.sel, .string db.src]] W fun e w' => e = .returned (.bool true) ∧ Below W.heap.size W w') := Lib.hid (fun W hW => monticuleref07_Small.calls 33 db.kind db.cls db.sup Ab cb db.vars db.sel db.src true W (Kd.C_below hCb hW) hcb (by rw [← hsbv]; exact small_ok 33 db (by decide)))
  have hbd : ∀ x ∈ l, Bd (dv x) := fun x hx => small_bd (by have h := hfv; unfold fewB at h; rw [Bool.and_eq_true, List.all_eq_true] at h; exact h.2 x hx)
  have hl10 : l.length ≤ 10 := by have h := hfv; unfold fewB at h; rw [Bool.and_eq_true, decide_eq_true_eq] at h; exact h.1
  have hnew : Hid (∀ W, Below w.heap.size w W → Calls Tryd.prog 16 #[.slice A0 l.length c0] W (fun e w' => ∃ g b, e = .returned (.tuple #[.pointer (some ⟨g, 0, none⟩), .int .i64 0]) ∧ w'.heap[g]? = some (.cells #[.map (some b)] 69 (0, 0)) ∧ MapAt w' b s.1 s.2 ∧ Below W.heap.size W w')) := Lib.hid (fun W hW => (by have := new_calls W A0 c0 l (Kd.C_below hC0 hW) hbd (by omega); rw [hres] at this; exact this))
  have hrta : Hid (∀ W, Below w.heap.size w W → Calls Tryd.prog 17 #[.agg #[.int .i64 da.kind, .string da.cls, .string da.sup, .slice Aa da.vars.length ca, .string da.sel, .string da.src]] W fun e w' => e = .returned (.bool false) ∧ Below W.heap.size W w') := Lib.hid (fun W hW => monticuleref07_Right.calls (2 * da.vars.length + 62) da.kind da.cls da.sup Aa ca da.vars da.sel da.src false W (Kd.C_below hCa hW) hca (by rw [← hra]; exact rright_ok (2 * da.vars.length + 62) da hCa.2.1 (small_bd hsav).sel (by omega)))
  have tok1 : True := trivial
  clear hC0 hc0 hCa hCb hca hcb hfv hsav hsbv hbd hl10 hres hra
  go_enter Tryd.func4, Tryd.ntmps4
  go_wp2_with (first
    | (go_at_call 13; have _t := tok1; refine (snap_awake _).mono ?_; rintro e0 w0 ⟨rfl, hb0⟩; have HB0 := Lib.hid (Fr.below_two w _ _ hb0); have HPa0 := Lib.hid ((hb0.block w.heap.size (by rw [World.size_alloc, World.size_alloc]; omega)).trans (blk_alloc (heap_alloc_new w (.cells #[.bool false, .int .i64 da.kind, .string da.cls, .string da.sup, .slice Aa da.vars.length ca, .string da.sel, .string da.src, .string keya] 43)) _)); have HPb0 := Lib.hid ((hb0.block (w.heap.size + 1) (by rw [World.size_alloc, World.size_alloc]; omega)).trans (alloc_second w _ (.cells #[.bool false, .int .i64 db.kind, .string db.cls, .string db.sup, .slice Ab db.vars.length cb, .string db.sel, .string db.src, .string keyb] 43))); have qa0 := fun i => blk_cell HPa0.out i; have qb0 := fun i => blk_cell HPb0.out i; clear hb0 tok1 _t)
    | (go_at_call 14; refine (hfew.out _ HB0.out).mono ?_; rintro e1 w1 ⟨rfl, hb1⟩; have HB1 := Lib.hid (below_then HB0.out HB0.out.size hb1); have HPa1 := Lib.hid ((hb1.block _ (blk_lt HPa0.out)).trans HPa0.out); have HPb1 := Lib.hid ((hb1.block _ (blk_lt HPb0.out)).trans HPb0.out); have qa1 := fun i => blk_cell HPa1.out i; have qb1 := fun i => blk_cell HPb1.out i; clear qa0 qb0; clear hb1 hfew)
    | (go_at_call 15; refine (hsa.out _ HB1.out).mono ?_; rintro e2 w2 ⟨rfl, hb2⟩; have HB2 := Lib.hid (below_then HB1.out HB1.out.size hb2); have HPa2 := Lib.hid ((hb2.block _ (blk_lt HPa1.out)).trans HPa1.out); have HPb2 := Lib.hid ((hb2.block _ (blk_lt HPb1.out)).trans HPb1.out); have qa2 := fun i => blk_cell HPa2.out i; have qb2 := fun i => blk_cell HPb2.out i; clear qa1 qb1; clear hb2 hsa)
    | (go_at_call 15; refine (hsb.out _ HB2.out).mono ?_; rintro e3 w3 ⟨rfl, hb3⟩; have HB3 := Lib.hid (below_then HB2.out HB2.out.size hb3); have HPa3 := Lib.hid ((hb3.block _ (blk_lt HPa2.out)).trans HPa2.out); have HPb3 := Lib.hid ((hb3.block _ (blk_lt HPb2.out)).trans HPb2.out); have qa3 := fun i => blk_cell HPa3.out i; have qb3 := fun i => blk_cell HPb3.out i; clear qa2 qb2; clear hb3 hsb)
    | (go_at_call 16; refine (hnew.out _ HB3.out).mono ?_; rintro e4 w4 ⟨g, bm, rfl, hg4, hm4, hb4⟩; have HB4 := Lib.hid (below_then HB3.out HB3.out.size hb4); have HG4 := Lib.hid hg4; have HM4 := Lib.hid hm4; have HPa4 := Lib.hid ((hb4.block _ (blk_lt HPa3.out)).trans HPa3.out); have HPb4 := Lib.hid ((hb4.block _ (blk_lt HPb3.out)).trans HPb3.out); have qa4 := fun i => blk_cell HPa4.out i; have qb4 := fun i => blk_cell HPb4.out i; clear qa3 qb3; clear hb4 hnew hg4 hm4)
    | (go_at_call 17; refine (hrta.out _ HB4.out).mono ?_; rintro e5 w5 ⟨rfl, hb5⟩; have HB5 := Lib.hid (below_then HB4.out HB4.out.size hb5); have HBN5 := Lib.hid (hb5); have HPa5 := Lib.hid ((hb5.block _ (blk_lt HPa4.out)).trans HPa4.out); have HPb5 := Lib.hid ((hb5.block _ (blk_lt HPb4.out)).trans HPb4.out); have qa5 := fun i => blk_cell HPa5.out i; have qb5 := fun i => blk_cell HPb5.out i; clear qa4 qb4; clear hb5 hrta))
  go_ret
  exact ⟨rfl, HB5.out⟩

set_option maxRecDepth 100000 in
set_option maxHeartbeats 4000000 in
theorem orders_wb1 (w : World) (A0 : Option Addr) (c0 : Nat) (l : List S31) (da db : DefV) (keya keyb : ByteArray) (Aa Ab : Option Addr) (ca cb : Nat) (hC0 : Kd.C k31 w A0 l.length l) (hc0 : l.length ≤ c0) (hCa : Kd.string.C w Aa da.vars.length da.vars) (hca : da.vars.length ≤ ca) (hCb : Kd.string.C w Ab db.vars.length db.vars) (hcb : db.vars.length ≤ cb) (hfv : fewB l = true) (hsav : smallD da = true) (hsbv : smallD db = true) (hka : ¬ (700 : Int) < (keya.size : Int)) (hkb : ¬ (700 : Int) < (keyb.size : Int)) (s : SnapS) (hres : newGo (l.map dv) snap0 = .inr s) (hrb : rightD db = false) :
    Calls Tryd.prog 4 #[.slice A0 l.length c0, .agg #[.bool true, .int .i64 da.kind, .string da.cls, .string da.sup, .slice Aa da.vars.length ca, .string da.sel, .string da.src, .string keya], .agg #[.bool false, .int .i64 db.kind, .string db.cls, .string db.sup, .slice Ab db.vars.length cb, .string db.sel, .string db.src, .string keyb]] w fun e w' => e = .returned (.bool true) ∧ Below w.heap.size w w' := by
  have hfew : Hid (∀ W, Below w.heap.size w W → Calls Tryd.prog 14 #[.slice A0 l.length c0, .int .i64 10] W fun e w' => e = .returned (.bool true) ∧ Below W.heap.size W w') := Lib.hid (fun W hW => monticuleref07_Few.calls (l.length + 42) A0 c0 l 10 true W (Kd.C_below hC0 hW) hc0 (by rw [← hfv]; exact few_ok l (l.length + 42) 10 (by decide) (by omega)))
  have hsa : Hid (∀ W, Below w.heap.size w W → Calls Tryd.prog 15 #[.agg #[.int .i64 da.kind, .string da.cls, .string da.sup, .slice Aa da.vars.length ca, .string da.sel, .string da.src]] W fun e w' => e = .returned (.bool true) ∧ Below W.heap.size W w') := Lib.hid (fun W hW => monticuleref07_Small.calls 33 da.kind da.cls da.sup Aa ca da.vars da.sel da.src true W (Kd.C_below hCa hW) hca (by rw [← hsav]; exact small_ok 33 da (by decide)))
  have hsb : Hid (∀ W, Below w.heap.size w W → Calls Tryd.prog 15 #[.agg #[.int .i64 db.kind, .string db.cls, .string db.sup, .slice Ab db.vars.length cb, .string db.sel, .string db.src]] W fun e w' => e = .returned (.bool true) ∧ Below W.heap.size W w') := Lib.hid (fun W hW => monticuleref07_Small.calls 33 db.kind db.cls db.sup Ab cb db.vars db.sel db.src true W (Kd.C_below hCb hW) hcb (by rw [← hsbv]; exact small_ok 33 db (by decide)))
  have hbd : ∀ x ∈ l, Bd (dv x) := fun x hx => small_bd (by have h := hfv; unfold fewB at h; rw [Bool.and_eq_true, List.all_eq_true] at h; exact h.2 x hx)
  have hl10 : l.length ≤ 10 := by have h := hfv; unfold fewB at h; rw [Bool.and_eq_true, decide_eq_true_eq] at h; exact h.1
  have hnew : Hid (∀ W, Below w.heap.size w W → Calls Tryd.prog 16 #[.slice A0 l.length c0] W (fun e w' => ∃ g b, e = .returned (.tuple #[.pointer (some ⟨g, 0, none⟩), .int .i64 0]) ∧ w'.heap[g]? = some (.cells #[.map (some b)] 69 (0, 0)) ∧ MapAt w' b s.1 s.2 ∧ Below W.heap.size W w')) := Lib.hid (fun W hW => (by have := new_calls W A0 c0 l (Kd.C_below hC0 hW) hbd (by omega); rw [hres] at this; exact this))
  have hrtb : Hid (∀ W, Below w.heap.size w W → Calls Tryd.prog 17 #[.agg #[.int .i64 db.kind, .string db.cls, .string db.sup, .slice Ab db.vars.length cb, .string db.sel, .string db.src]] W fun e w' => e = .returned (.bool false) ∧ Below W.heap.size W w') := Lib.hid (fun W hW => monticuleref07_Right.calls (2 * db.vars.length + 62) db.kind db.cls db.sup Ab cb db.vars db.sel db.src false W (Kd.C_below hCb hW) hcb (by rw [← hrb]; exact rright_ok (2 * db.vars.length + 62) db hCb.2.1 (small_bd hsbv).sel (by omega)))
  have tok1 : True := trivial
  clear hC0 hc0 hCa hCb hca hcb hfv hsav hsbv hbd hl10 hres hrb
  go_enter Tryd.func4, Tryd.ntmps4
  go_wp2_with (first
    | (go_at_call 13; have _t := tok1; refine (snap_awake _).mono ?_; rintro e0 w0 ⟨rfl, hb0⟩; have HB0 := Lib.hid (Fr.below_two w _ _ hb0); have HPa0 := Lib.hid ((hb0.block w.heap.size (by rw [World.size_alloc, World.size_alloc]; omega)).trans (blk_alloc (heap_alloc_new w (.cells #[.bool true, .int .i64 da.kind, .string da.cls, .string da.sup, .slice Aa da.vars.length ca, .string da.sel, .string da.src, .string keya] 43)) _)); have HPb0 := Lib.hid ((hb0.block (w.heap.size + 1) (by rw [World.size_alloc, World.size_alloc]; omega)).trans (alloc_second w _ (.cells #[.bool false, .int .i64 db.kind, .string db.cls, .string db.sup, .slice Ab db.vars.length cb, .string db.sel, .string db.src, .string keyb] 43))); have qa0 := fun i => blk_cell HPa0.out i; have qb0 := fun i => blk_cell HPb0.out i; clear hb0 tok1 _t)
    | (go_at_call 14; refine (hfew.out _ HB0.out).mono ?_; rintro e1 w1 ⟨rfl, hb1⟩; have HB1 := Lib.hid (below_then HB0.out HB0.out.size hb1); have HPa1 := Lib.hid ((hb1.block _ (blk_lt HPa0.out)).trans HPa0.out); have HPb1 := Lib.hid ((hb1.block _ (blk_lt HPb0.out)).trans HPb0.out); have qa1 := fun i => blk_cell HPa1.out i; have qb1 := fun i => blk_cell HPb1.out i; clear qa0 qb0; clear hb1 hfew)
    | (go_at_call 15; refine (hsa.out _ HB1.out).mono ?_; rintro e2 w2 ⟨rfl, hb2⟩; have HB2 := Lib.hid (below_then HB1.out HB1.out.size hb2); have HPa2 := Lib.hid ((hb2.block _ (blk_lt HPa1.out)).trans HPa1.out); have HPb2 := Lib.hid ((hb2.block _ (blk_lt HPb1.out)).trans HPb1.out); have qa2 := fun i => blk_cell HPa2.out i; have qb2 := fun i => blk_cell HPb2.out i; clear qa1 qb1; clear hb2 hsa)
    | (go_at_call 15; refine (hsb.out _ HB2.out).mono ?_; rintro e3 w3 ⟨rfl, hb3⟩; have HB3 := Lib.hid (below_then HB2.out HB2.out.size hb3); have HPa3 := Lib.hid ((hb3.block _ (blk_lt HPa2.out)).trans HPa2.out); have HPb3 := Lib.hid ((hb3.block _ (blk_lt HPb2.out)).trans HPb2.out); have qa3 := fun i => blk_cell HPa3.out i; have qb3 := fun i => blk_cell HPb3.out i; clear qa2 qb2; clear hb3 hsb)
    | (go_at_call 16; refine (hnew.out _ HB3.out).mono ?_; rintro e4 w4 ⟨g, bm, rfl, hg4, hm4, hb4⟩; have HB4 := Lib.hid (below_then HB3.out HB3.out.size hb4); have HG4 := Lib.hid hg4; have HM4 := Lib.hid hm4; have HPa4 := Lib.hid ((hb4.block _ (blk_lt HPa3.out)).trans HPa3.out); have HPb4 := Lib.hid ((hb4.block _ (blk_lt HPb3.out)).trans HPb3.out); have qa4 := fun i => blk_cell HPa4.out i; have qb4 := fun i => blk_cell HPb4.out i; clear qa3 qb3; clear hb4 hnew hg4 hm4)
    | (go_at_call 17; refine (hrtb.out _ HB4.out).mono ?_; rintro e5 w5 ⟨rfl, hb5⟩; have HB5 := Lib.hid (below_then HB4.out HB4.out.size hb5); have HBN5 := Lib.hid (hb5); have HPa5 := Lib.hid ((hb5.block _ (blk_lt HPa4.out)).trans HPa4.out); have HPb5 := Lib.hid ((hb5.block _ (blk_lt HPb4.out)).trans HPb4.out); have qa5 := fun i => blk_cell HPa5.out i; have qb5 := fun i => blk_cell HPb5.out i; clear qa4 qb4; clear hb5 hrtb))
  go_ret
  exact ⟨rfl, HB5.out⟩

set_option maxRecDepth 100000 in
set_option maxHeartbeats 4000000 in
theorem orders_wb2 (w : World) (A0 : Option Addr) (c0 : Nat) (l : List S31) (da db : DefV) (keya keyb : ByteArray) (Aa Ab : Option Addr) (ca cb : Nat) (hC0 : Kd.C k31 w A0 l.length l) (hc0 : l.length ≤ c0) (hCa : Kd.string.C w Aa da.vars.length da.vars) (hca : da.vars.length ≤ ca) (hCb : Kd.string.C w Ab db.vars.length db.vars) (hcb : db.vars.length ≤ cb) (hfv : fewB l = true) (hsav : smallD da = true) (hsbv : smallD db = true) (hka : ¬ (700 : Int) < (keya.size : Int)) (hkb : ¬ (700 : Int) < (keyb.size : Int)) (s : SnapS) (hres : newGo (l.map dv) snap0 = .inr s) (hra : rightD da = true) (hrb : rightD db = false) :
    Calls Tryd.prog 4 #[.slice A0 l.length c0, .agg #[.bool false, .int .i64 da.kind, .string da.cls, .string da.sup, .slice Aa da.vars.length ca, .string da.sel, .string da.src, .string keya], .agg #[.bool false, .int .i64 db.kind, .string db.cls, .string db.sup, .slice Ab db.vars.length cb, .string db.sel, .string db.src, .string keyb]] w fun e w' => e = .returned (.bool true) ∧ Below w.heap.size w w' := by
  have hfew : Hid (∀ W, Below w.heap.size w W → Calls Tryd.prog 14 #[.slice A0 l.length c0, .int .i64 10] W fun e w' => e = .returned (.bool true) ∧ Below W.heap.size W w') := Lib.hid (fun W hW => monticuleref07_Few.calls (l.length + 42) A0 c0 l 10 true W (Kd.C_below hC0 hW) hc0 (by rw [← hfv]; exact few_ok l (l.length + 42) 10 (by decide) (by omega)))
  have hsa : Hid (∀ W, Below w.heap.size w W → Calls Tryd.prog 15 #[.agg #[.int .i64 da.kind, .string da.cls, .string da.sup, .slice Aa da.vars.length ca, .string da.sel, .string da.src]] W fun e w' => e = .returned (.bool true) ∧ Below W.heap.size W w') := Lib.hid (fun W hW => monticuleref07_Small.calls 33 da.kind da.cls da.sup Aa ca da.vars da.sel da.src true W (Kd.C_below hCa hW) hca (by rw [← hsav]; exact small_ok 33 da (by decide)))
  have hsb : Hid (∀ W, Below w.heap.size w W → Calls Tryd.prog 15 #[.agg #[.int .i64 db.kind, .string db.cls, .string db.sup, .slice Ab db.vars.length cb, .string db.sel, .string db.src]] W fun e w' => e = .returned (.bool true) ∧ Below W.heap.size W w') := Lib.hid (fun W hW => monticuleref07_Small.calls 33 db.kind db.cls db.sup Ab cb db.vars db.sel db.src true W (Kd.C_below hCb hW) hcb (by rw [← hsbv]; exact small_ok 33 db (by decide)))
  have hbd : ∀ x ∈ l, Bd (dv x) := fun x hx => small_bd (by have h := hfv; unfold fewB at h; rw [Bool.and_eq_true, List.all_eq_true] at h; exact h.2 x hx)
  have hl10 : l.length ≤ 10 := by have h := hfv; unfold fewB at h; rw [Bool.and_eq_true, decide_eq_true_eq] at h; exact h.1
  have hnew : Hid (∀ W, Below w.heap.size w W → Calls Tryd.prog 16 #[.slice A0 l.length c0] W (fun e w' => ∃ g b, e = .returned (.tuple #[.pointer (some ⟨g, 0, none⟩), .int .i64 0]) ∧ w'.heap[g]? = some (.cells #[.map (some b)] 69 (0, 0)) ∧ MapAt w' b s.1 s.2 ∧ Below W.heap.size W w')) := Lib.hid (fun W hW => (by have := new_calls W A0 c0 l (Kd.C_below hC0 hW) hbd (by omega); rw [hres] at this; exact this))
  have hrta : Hid (∀ W, Below w.heap.size w W → Calls Tryd.prog 17 #[.agg #[.int .i64 da.kind, .string da.cls, .string da.sup, .slice Aa da.vars.length ca, .string da.sel, .string da.src]] W fun e w' => e = .returned (.bool true) ∧ Below W.heap.size W w') := Lib.hid (fun W hW => monticuleref07_Right.calls (2 * da.vars.length + 62) da.kind da.cls da.sup Aa ca da.vars da.sel da.src true W (Kd.C_below hCa hW) hca (by rw [← hra]; exact rright_ok (2 * da.vars.length + 62) da hCa.2.1 (small_bd hsav).sel (by omega)))
  have hrtb : Hid (∀ W, Below w.heap.size w W → Calls Tryd.prog 17 #[.agg #[.int .i64 db.kind, .string db.cls, .string db.sup, .slice Ab db.vars.length cb, .string db.sel, .string db.src]] W fun e w' => e = .returned (.bool false) ∧ Below W.heap.size W w') := Lib.hid (fun W hW => monticuleref07_Right.calls (2 * db.vars.length + 62) db.kind db.cls db.sup Ab cb db.vars db.sel db.src false W (Kd.C_below hCb hW) hcb (by rw [← hrb]; exact rright_ok (2 * db.vars.length + 62) db hCb.2.1 (small_bd hsbv).sel (by omega)))
  have tok1 : True := trivial
  clear hC0 hc0 hCa hCb hca hcb hfv hsav hsbv hbd hl10 hres hra hrb
  go_enter Tryd.func4, Tryd.ntmps4
  go_wp2_with (first
    | (go_at_call 13; have _t := tok1; refine (snap_awake _).mono ?_; rintro e0 w0 ⟨rfl, hb0⟩; have HB0 := Lib.hid (Fr.below_two w _ _ hb0); have HPa0 := Lib.hid ((hb0.block w.heap.size (by rw [World.size_alloc, World.size_alloc]; omega)).trans (blk_alloc (heap_alloc_new w (.cells #[.bool false, .int .i64 da.kind, .string da.cls, .string da.sup, .slice Aa da.vars.length ca, .string da.sel, .string da.src, .string keya] 43)) _)); have HPb0 := Lib.hid ((hb0.block (w.heap.size + 1) (by rw [World.size_alloc, World.size_alloc]; omega)).trans (alloc_second w _ (.cells #[.bool false, .int .i64 db.kind, .string db.cls, .string db.sup, .slice Ab db.vars.length cb, .string db.sel, .string db.src, .string keyb] 43))); have qa0 := fun i => blk_cell HPa0.out i; have qb0 := fun i => blk_cell HPb0.out i; clear hb0 tok1 _t)
    | (go_at_call 14; refine (hfew.out _ HB0.out).mono ?_; rintro e1 w1 ⟨rfl, hb1⟩; have HB1 := Lib.hid (below_then HB0.out HB0.out.size hb1); have HPa1 := Lib.hid ((hb1.block _ (blk_lt HPa0.out)).trans HPa0.out); have HPb1 := Lib.hid ((hb1.block _ (blk_lt HPb0.out)).trans HPb0.out); have qa1 := fun i => blk_cell HPa1.out i; have qb1 := fun i => blk_cell HPb1.out i; clear qa0 qb0; clear hb1 hfew)
    | (go_at_call 15; refine (hsa.out _ HB1.out).mono ?_; rintro e2 w2 ⟨rfl, hb2⟩; have HB2 := Lib.hid (below_then HB1.out HB1.out.size hb2); have HPa2 := Lib.hid ((hb2.block _ (blk_lt HPa1.out)).trans HPa1.out); have HPb2 := Lib.hid ((hb2.block _ (blk_lt HPb1.out)).trans HPb1.out); have qa2 := fun i => blk_cell HPa2.out i; have qb2 := fun i => blk_cell HPb2.out i; clear qa1 qb1; clear hb2 hsa)
    | (go_at_call 15; refine (hsb.out _ HB2.out).mono ?_; rintro e3 w3 ⟨rfl, hb3⟩; have HB3 := Lib.hid (below_then HB2.out HB2.out.size hb3); have HPa3 := Lib.hid ((hb3.block _ (blk_lt HPa2.out)).trans HPa2.out); have HPb3 := Lib.hid ((hb3.block _ (blk_lt HPb2.out)).trans HPb2.out); have qa3 := fun i => blk_cell HPa3.out i; have qb3 := fun i => blk_cell HPb3.out i; clear qa2 qb2; clear hb3 hsb)
    | (go_at_call 16; refine (hnew.out _ HB3.out).mono ?_; rintro e4 w4 ⟨g, bm, rfl, hg4, hm4, hb4⟩; have HB4 := Lib.hid (below_then HB3.out HB3.out.size hb4); have HG4 := Lib.hid hg4; have HM4 := Lib.hid hm4; have HPa4 := Lib.hid ((hb4.block _ (blk_lt HPa3.out)).trans HPa3.out); have HPb4 := Lib.hid ((hb4.block _ (blk_lt HPb3.out)).trans HPb3.out); have qa4 := fun i => blk_cell HPa4.out i; have qb4 := fun i => blk_cell HPb4.out i; clear qa3 qb3; clear hb4 hnew hg4 hm4)
    | (go_at_call 17; refine (hrta.out _ HB4.out).mono ?_; rintro e5 w5 ⟨rfl, hb5⟩; have HB5 := Lib.hid (below_then HB4.out HB4.out.size hb5); have HBN5 := Lib.hid (hb5); have HPa5 := Lib.hid ((hb5.block _ (blk_lt HPa4.out)).trans HPa4.out); have HPb5 := Lib.hid ((hb5.block _ (blk_lt HPb4.out)).trans HPb4.out); have qa5 := fun i => blk_cell HPa5.out i; have qb5 := fun i => blk_cell HPb5.out i; clear qa4 qb4; clear hb5 hrta)
    | (go_at_call 17; refine (hrtb.out _ HB5.out).mono ?_; rintro e6 w6 ⟨rfl, hb6⟩; have HB6 := Lib.hid (below_then HB5.out HB5.out.size hb6); have HBN6 := Lib.hid (below_then HBN5.out HBN5.out.size hb6); have HPa6 := Lib.hid ((hb6.block _ (blk_lt HPa5.out)).trans HPa5.out); have HPb6 := Lib.hid ((hb6.block _ (blk_lt HPb5.out)).trans HPb5.out); have qa6 := fun i => blk_cell HPa6.out i; have qb6 := fun i => blk_cell HPb6.out i; clear qa5 qb5; clear hb6 hrtb))
  go_ret
  exact ⟨rfl, HB6.out⟩

end Go.Proofs.YtoiaancehakiiaaDoor.Q
/- The walk of the law SnapOrders: two changes of a snapshot, in both orders. Printed by wip/tools/gen_orders.py. -/
namespace Go.Proofs.YtoiaancehakiiaaDoor.Q
open Go.RowKit Go.Maps Go.Proofs.YtoiaancehakiiaaDoor.Plain Go.Proofs.YtoiaancehakiiaaDoorW.PrintWords

theorem ord_s {W : World} {p q : Nat} {v0 v1 v2 v3 v4 v5 v6 v7 u0 u1 u2 u3 u4 u5 u6 u7 : Value} {t : TypeId} (h1 : W.heap[p]? = some (.cells #[v0, v1, v2, v3, v4, v5, v6, v7] t (0, 0))) (h2 : W.heap[q]? = some (.cells #[u0, u1, u2, u3, u4, u5, u6, u7] t (0, 0))) :
    W.cell? ⟨p, 0, none⟩ = some v0 ∧ W.cell? ⟨p, 1, none⟩ = some v1 ∧ W.cell? ⟨p, 2, none⟩ = some v2 ∧ W.cell? ⟨p, 3, none⟩ = some v3 ∧ W.cell? ⟨p, 4, none⟩ = some v4 ∧ W.cell? ⟨p, 5, none⟩ = some v5 ∧ W.cell? ⟨p, 6, none⟩ = some v6 ∧ W.cell? ⟨p, 7, none⟩ = some v7 ∧ W.cell? ⟨q, 0, none⟩ = some u0 ∧ W.cell? ⟨q, 1, none⟩ = some u1 ∧ W.cell? ⟨q, 2, none⟩ = some u2 ∧ W.cell? ⟨q, 3, none⟩ = some u3 ∧ W.cell? ⟨q, 4, none⟩ = some u4 ∧ W.cell? ⟨q, 5, none⟩ = some u5 ∧ W.cell? ⟨q, 6, none⟩ = some u6 ∧ W.cell? ⟨q, 7, none⟩ = some u7 :=
  ⟨blk_cell h1 0, blk_cell h1 1, blk_cell h1 2, blk_cell h1 3, blk_cell h1 4, blk_cell h1 5, blk_cell h1 6, blk_cell h1 7, blk_cell h2 0, blk_cell h2 1, blk_cell h2 2, blk_cell h2 3, blk_cell h2 4, blk_cell h2 5, blk_cell h2 6, blk_cell h2 7⟩

set_option maxRecDepth 100000 in
set_option maxHeartbeats 4000000 in
theorem orders_good_true_true (w : World) (A0 : Option Addr) (c0 : Nat) (l : List S31) (da db : DefV) (keya keyb : ByteArray) (Aa Ab : Option Addr) (ca cb : Nat) (hC0 : Kd.C k31 w A0 l.length l) (hc0 : l.length ≤ c0) (hCa : Kd.string.C w Aa da.vars.length da.vars) (hca : da.vars.length ≤ ca) (hCb : Kd.string.C w Ab db.vars.length db.vars) (hcb : db.vars.length ≤ cb) (hfv : fewB l = true) (hsav : smallD da = true) (hsbv : smallD db = true) (hka : ¬ (700 : Int) < (keya.size : Int)) (hkb : ¬ (700 : Int) < (keyb.size : Int)) (s : SnapS) (hres : newGo (l.map dv) snap0 = .inr s)  :
    Calls Tryd.prog 4 #[.slice A0 l.length c0, .agg #[.bool true, .int .i64 da.kind, .string da.cls, .string da.sup, .slice Aa da.vars.length ca, .string da.sel, .string da.src, .string keya], .agg #[.bool true, .int .i64 db.kind, .string db.cls, .string db.sup, .slice Ab db.vars.length cb, .string db.sel, .string db.src, .string keyb]] w fun e w' => e = .returned (.bool true) ∧ Below w.heap.size w w' := by
  have hfew : Hid (∀ W, Below w.heap.size w W → Calls Tryd.prog 14 #[.slice A0 l.length c0, .int .i64 10] W fun e w' => e = .returned (.bool true) ∧ Below W.heap.size W w') := Lib.hid (fun W hW => monticuleref07_Few.calls (l.length + 42) A0 c0 l 10 true W (Kd.C_below hC0 hW) hc0 (by rw [← hfv]; exact few_ok l (l.length + 42) 10 (by decide) (by omega)))
  have hsa : Hid (∀ W, Below w.heap.size w W → Calls Tryd.prog 15 #[.agg #[.int .i64 da.kind, .string da.cls, .string da.sup, .slice Aa da.vars.length ca, .string da.sel, .string da.src]] W fun e w' => e = .returned (.bool true) ∧ Below W.heap.size W w') := Lib.hid (fun W hW => monticuleref07_Small.calls 33 da.kind da.cls da.sup Aa ca da.vars da.sel da.src true W (Kd.C_below hCa hW) hca (by rw [← hsav]; exact small_ok 33 da (by decide)))
  have hsb : Hid (∀ W, Below w.heap.size w W → Calls Tryd.prog 15 #[.agg #[.int .i64 db.kind, .string db.cls, .string db.sup, .slice Ab db.vars.length cb, .string db.sel, .string db.src]] W fun e w' => e = .returned (.bool true) ∧ Below W.heap.size W w') := Lib.hid (fun W hW => monticuleref07_Small.calls 33 db.kind db.cls db.sup Ab cb db.vars db.sel db.src true W (Kd.C_below hCb hW) hcb (by rw [← hsbv]; exact small_ok 33 db (by decide)))
  have hbd : ∀ x ∈ l, Bd (dv x) := fun x hx => small_bd (by have h := hfv; unfold fewB at h; rw [Bool.and_eq_true, List.all_eq_true] at h; exact h.2 x hx)
  have hl10 : l.length ≤ 10 := by have h := hfv; unfold fewB at h; rw [Bool.and_eq_true, decide_eq_true_eq] at h; exact h.1
  have hnew : Hid (∀ W, Below w.heap.size w W → Calls Tryd.prog 16 #[.slice A0 l.length c0] W (fun e w' => ∃ g b, e = .returned (.tuple #[.pointer (some ⟨g, 0, none⟩), .int .i64 0]) ∧ w'.heap[g]? = some (.cells #[.map (some b)] 69 (0, 0)) ∧ MapAt w' b s.1 s.2 ∧ Below W.heap.size W w')) := Lib.hid (fun W hW => (by have := new_calls W A0 c0 l (Kd.C_below hC0 hW) hbd (by omega); rw [hres] at this; exact this))
  obtain ⟨xa, hxa⟩ : ∃ xa : ChgV, xa = ⟨true, da, keya⟩ := ⟨_, rfl⟩
  obtain ⟨xb, hxb⟩ : ∃ xb : ChgV, xb = ⟨true, db, keyb⟩ := ⟨_, rfl⟩
  have hcha : Hid (∀ W p m n F, Below w.heap.size w W → SnapM W p m → SrcMap W m n F → n < 500 → Calls Tryd.prog 19 #[.pointer p, .agg #[.bool true, .int .i64 da.kind, .string da.cls, .string da.sup, .slice Aa da.vars.length ca, .string da.sel, .string da.src, .string keya]] W (ChgPost W (chgS (n, F) xa))) := Lib.hid (fun W p m n F hW h1 h2 h3 => by subst hxa; exact changed_calls W p m n F ⟨true, da, keya⟩ Aa ca h1 h2 (Kd.C_below hCa hW) hca (small_bd hsav) (.inl rfl) (by unfold maxLen; show keya.size ≤ _; omega) h3)
  have hchb : Hid (∀ W p m n F, Below w.heap.size w W → SnapM W p m → SrcMap W m n F → n < 500 → Calls Tryd.prog 19 #[.pointer p, .agg #[.bool true, .int .i64 db.kind, .string db.cls, .string db.sup, .slice Ab db.vars.length cb, .string db.sel, .string db.src, .string keyb]] W (ChgPost W (chgS (n, F) xb))) := Lib.hid (fun W p m n F hW h1 h2 h3 => by subst hxb; exact changed_calls W p m n F ⟨true, db, keyb⟩ Ab cb h1 h2 (Kd.C_below hCb hW) hcb (small_bd hsbv) (.inl rfl) (by unfold maxLen; show keyb.size ≤ _; omega) h3)
  have HSN := Lib.hid (show s.1 ≤ 10 by have h := newGo_count _ _ _ hres; rw [h, List.length_map]; show 0 + _ ≤ _; omega)
  have HXA := Lib.hid hxa
  have HXB := Lib.hid hxb
  clear hxa hxb
  have tok1 : True := trivial
  clear hC0 hc0 hCa hCb hca hcb hfv hsav hsbv hbd hl10 hres 
  go_enter Tryd.func4, Tryd.ntmps4
  go_wp2_with (first
    | (go_at_call 13; have _t := tok1; refine (snap_awake _).mono ?_; rintro e0 w0 ⟨rfl, hb0⟩; have HB0 := Lib.hid (Fr.below_two w _ _ hb0); have HPa0 := Lib.hid ((hb0.block w.heap.size (by rw [World.size_alloc, World.size_alloc]; omega)).trans (blk_alloc (heap_alloc_new w (.cells #[.bool true, .int .i64 da.kind, .string da.cls, .string da.sup, .slice Aa da.vars.length ca, .string da.sel, .string da.src, .string keya] 43)) _)); have HPb0 := Lib.hid ((hb0.block (w.heap.size + 1) (by rw [World.size_alloc, World.size_alloc]; omega)).trans (alloc_second w _ (.cells #[.bool true, .int .i64 db.kind, .string db.cls, .string db.sup, .slice Ab db.vars.length cb, .string db.sel, .string db.src, .string keyb] 43))); have qa0 := fun i => blk_cell HPa0.out i; have qb0 := fun i => blk_cell HPb0.out i; clear hb0 tok1 _t)
    | (go_at_call 14; refine (hfew.out _ HB0.out).mono ?_; rintro e1 w1 ⟨rfl, hb1⟩; have HB1 := Lib.hid (below_then HB0.out HB0.out.size hb1); have HPa1 := Lib.hid ((hb1.block _ (blk_lt HPa0.out)).trans HPa0.out); have HPb1 := Lib.hid ((hb1.block _ (blk_lt HPb0.out)).trans HPb0.out); have qa1 := fun i => blk_cell HPa1.out i; have qb1 := fun i => blk_cell HPb1.out i; clear qa0 qb0; clear hb1 hfew)
    | (go_at_call 15; refine (hsa.out _ HB1.out).mono ?_; rintro e2 w2 ⟨rfl, hb2⟩; have HB2 := Lib.hid (below_then HB1.out HB1.out.size hb2); have HPa2 := Lib.hid ((hb2.block _ (blk_lt HPa1.out)).trans HPa1.out); have HPb2 := Lib.hid ((hb2.block _ (blk_lt HPb1.out)).trans HPb1.out); have qa2 := fun i => blk_cell HPa2.out i; have qb2 := fun i => blk_cell HPb2.out i; clear qa1 qb1; clear hb2 hsa)
    | (go_at_call 15; refine (hsb.out _ HB2.out).mono ?_; rintro e3 w3 ⟨rfl, hb3⟩; have HB3 := Lib.hid (below_then HB2.out HB2.out.size hb3); have HPa3 := Lib.hid ((hb3.block _ (blk_lt HPa2.out)).trans HPa2.out); have HPb3 := Lib.hid ((hb3.block _ (blk_lt HPb2.out)).trans HPb2.out); have qa3 := fun i => blk_cell HPa3.out i; have qb3 := fun i => blk_cell HPb3.out i; clear qa2 qb2; clear hb3 hsb)
    | (go_at_call 16; refine (hnew.out _ HB3.out).mono ?_; rintro e4 w4 ⟨g, bm, rfl, hg4, hm4, hb4⟩; have HB4 := Lib.hid (below_then HB3.out HB3.out.size hb4); have HG4 := Lib.hid hg4; have HM4 := Lib.hid hm4; have HPa4 := Lib.hid ((hb4.block _ (blk_lt HPa3.out)).trans HPa3.out); have HPb4 := Lib.hid ((hb4.block _ (blk_lt HPb3.out)).trans HPb3.out); have qa4 := fun i => blk_cell HPa4.out i; have qb4 := fun i => blk_cell HPb4.out i; clear qa3 qb3; clear hb4 hnew hg4 hm4))
  have HB20 := Lib.hid (below_drew HB4.out)
  have HPa20 := Lib.hid ((Fr.drew (Fr.refl (fun _ => False) w4)).heap HPa4.out (fun h => h))
  have HPb20 := Lib.hid ((Fr.drew (Fr.refl (fun _ => False) w4)).heap HPb4.out (fun h => h))
  have HSr : Hid (w4.drew.cell? ⟨w.heap.size, 7, none⟩ = some (.string keya) ∧ w4.drew.cell? ⟨w.heap.size + 1, 7, none⟩ = some (.string keyb)) := Lib.hid ⟨blk_cell HPa20.out 7, blk_cell HPb20.out 7⟩
  go_region_held3 (fun W => W.cell? ⟨w.heap.size, 7, none⟩ = some (.string keya) ∧ W.cell? ⟨w.heap.size + 1, 7, none⟩ = some (.string keyb)) (exact HSr.out) (fail)
  clear qa4 qb4 HSr
  have HMM : Hid (Below w4.heap.size w4 w4.drew) := Lib.hid (below_drew (Below.refl _ w4))
  generalize w4.drew = w20 at *
  have qa20 := fun i => blk_cell HPa20.out i
  have qb20 := fun i => blk_cell HPb20.out i
  go_wp2_with (first
    | fail)
  all_goals try (go_ret; exact ⟨rfl, (by first | exact HB22.out | exact HB21.out | exact HB20.out)⟩)
  have HBd := Lib.hid (below_drew HB20.out)
  have HNd := Lib.hid (below_drew HMM.out)
  have HPad := Lib.hid ((Fr.drew (Fr.refl (fun _ => False) w20)).heap HPa20.out (fun h => h))
  have HPbd := Lib.hid ((Fr.drew (Fr.refl (fun _ => False) w20)).heap HPb20.out (fun h => h))
  have HSd := Lib.hid (ord_s HPad.out HPbd.out)
  have hne : chgK xa ≠ chgK xb := by
    rw [HXA.out, HXB.out]
    have h : ((keya).toList == (keyb).toList) = false := by assumption
    rw [tl_beq, decide_eq_false_iff_not] at h
    exact h
  have HE := Lib.hid (chg_comm s xa xb hne)
  clear hne
  have tokc1 : True := trivial
  have tokc2 : True := trivial
  have tokc3 : True := trivial
  have tokc4 : True := trivial
  clear qa20 qb20
  go_region_held3 (fun W => W.cell? ⟨w.heap.size, 0, none⟩ = some (.bool true) ∧ W.cell? ⟨w.heap.size, 1, none⟩ = some (.int .i64 da.kind) ∧ W.cell? ⟨w.heap.size, 2, none⟩ = some (.string da.cls) ∧ W.cell? ⟨w.heap.size, 3, none⟩ = some (.string da.sup) ∧ W.cell? ⟨w.heap.size, 4, none⟩ = some (.slice Aa da.vars.length ca) ∧ W.cell? ⟨w.heap.size, 5, none⟩ = some (.string da.sel) ∧ W.cell? ⟨w.heap.size, 6, none⟩ = some (.string da.src) ∧ W.cell? ⟨w.heap.size, 7, none⟩ = some (.string keya) ∧ W.cell? ⟨w.heap.size + 1, 0, none⟩ = some (.bool true) ∧ W.cell? ⟨w.heap.size + 1, 1, none⟩ = some (.int .i64 db.kind) ∧ W.cell? ⟨w.heap.size + 1, 2, none⟩ = some (.string db.cls) ∧ W.cell? ⟨w.heap.size + 1, 3, none⟩ = some (.string db.sup) ∧ W.cell? ⟨w.heap.size + 1, 4, none⟩ = some (.slice Ab db.vars.length cb) ∧ W.cell? ⟨w.heap.size + 1, 5, none⟩ = some (.string db.sel) ∧ W.cell? ⟨w.heap.size + 1, 6, none⟩ = some (.string db.src) ∧ W.cell? ⟨w.heap.size + 1, 7, none⟩ = some (.string keyb)) (first | exact HS34.out | exact HS33.out | exact HS32.out | exact HS31.out | exact HSd.out)
    (first
    | (go_at_call 19; have _t := tokc1; refine (hcha.out _ (some ⟨g, 0, none⟩) (some bm) s.1 s.2 HBd.out (.inr ⟨g, rfl, (HNd.out.block _ (blk_lt HG4.out)).trans HG4.out⟩) (HM4.out.below HNd.out) (by have h1 := HSN.out; have h2 := chg_count s xa; have h3 := chg_count s xb; omega)).mono ?_; rintro e31 w31 ⟨g31, b31, rfl, hg31, hm31, hb31⟩; have HG31 := Lib.hid hg31; have HM31 := Lib.hid hm31; have HC31 := Lib.hid hb31; have HB31 := Lib.hid (below_then HBd.out HBd.out.size hb31); have HPa31 := Lib.hid ((hb31.block _ (blk_lt HPad.out)).trans HPad.out); have HPb31 := Lib.hid ((hb31.block _ (blk_lt HPbd.out)).trans HPbd.out); have HS31 := Lib.hid (ord_s HPa31.out HPb31.out); clear hg31 hm31 hb31 tokc1 _t)
    | (go_at_call 19; have _t := tokc2; refine (hchb.out _ (some ⟨g31, 0, none⟩) (some b31) (chgS s xa).1 (chgS s xa).2 HB31.out (.inr ⟨g31, rfl, HG31.out⟩) HM31.out (by have h1 := HSN.out; have h2 := chg_count s xa; have h3 := chg_count s xb; omega)).mono ?_; rintro e32 w32 ⟨g32, b32, rfl, hg32, hm32, hb32⟩; have HG32 := Lib.hid hg32; have HM32 := Lib.hid hm32; have HC32 := Lib.hid hb32; have HB32 := Lib.hid (below_then HB31.out HB31.out.size hb32); have HPa32 := Lib.hid ((hb32.block _ (blk_lt HPa31.out)).trans HPa31.out); have HPb32 := Lib.hid ((hb32.block _ (blk_lt HPb31.out)).trans HPb31.out); have HS32 := Lib.hid (ord_s HPa32.out HPb32.out); clear hg32 hm32 hb32 tokc2 _t)
    | (go_at_call 19; have _t := tokc3; refine (hchb.out _ (some ⟨g, 0, none⟩) (some bm) s.1 s.2 HB32.out (.inr ⟨g, rfl, ((below_then (below_then HNd.out HNd.out.size HC31.out) (by have := HNd.out.size; have := HC31.out.size; omega) HC32.out).block _ (blk_lt HG4.out)).trans HG4.out⟩) (HM4.out.below (below_then (below_then HNd.out HNd.out.size HC31.out) (by have := HNd.out.size; have := HC31.out.size; omega) HC32.out)) (by have h1 := HSN.out; have h2 := chg_count s xa; have h3 := chg_count s xb; omega)).mono ?_; rintro e33 w33 ⟨g33, b33, rfl, hg33, hm33, hb33⟩; have HG33 := Lib.hid hg33; have HM33 := Lib.hid hm33; have HC33 := Lib.hid hb33; have HB33 := Lib.hid (below_then HB32.out HB32.out.size hb33); have HPa33 := Lib.hid ((hb33.block _ (blk_lt HPa32.out)).trans HPa32.out); have HPb33 := Lib.hid ((hb33.block _ (blk_lt HPb32.out)).trans HPb32.out); have HS33 := Lib.hid (ord_s HPa33.out HPb33.out); clear hg33 hm33 hb33 tokc3 _t)
    | (go_at_call 19; have _t := tokc4; refine (hcha.out _ (some ⟨g33, 0, none⟩) (some b33) (chgS s xb).1 (chgS s xb).2 HB33.out (.inr ⟨g33, rfl, HG33.out⟩) HM33.out (by have h1 := HSN.out; have h2 := chg_count s xa; have h3 := chg_count s xb; omega)).mono ?_; rintro e34 w34 ⟨g34, b34, rfl, hg34, hm34, hb34⟩; have HG34 := Lib.hid hg34; have HM34 := Lib.hid hm34; have HC34 := Lib.hid hb34; have HB34 := Lib.hid (below_then HB33.out HB33.out.size hb34); have HPa34 := Lib.hid ((hb34.block _ (blk_lt HPa33.out)).trans HPa33.out); have HPb34 := Lib.hid ((hb34.block _ (blk_lt HPb33.out)).trans HPb33.out); have HS34 := Lib.hid (ord_s HPa34.out HPb34.out); clear hg34 hm34 hb34 tokc4 _t))
  have hbl := below_then HC33.out HC33.out.size HC34.out
  have h1 := HM32.out.below hbl
  have h2 := HM34.out
  have he : (chgS (chgS s xb) xa).2 = (chgS (chgS s xa) xb).2 := HE.out.symm
  rw [he] at h2
  have hn := MapAt.size_eq h1 h2
  rw [← hn] at h2
  have hsame := Lib.hid (same_calls w34 (some ⟨g32, 0, none⟩) (some ⟨g34, 0, none⟩) b32 b34 _ _ (.inr ⟨g32, rfl, (hbl.block _ (blk_lt HG32.out)).trans HG32.out⟩) (.inr ⟨g34, rfl, HG34.out⟩) h1 h2)
  clear h1 h2 he hn hbl hcha hchb
  go_wp2_with (go_at_call 20; refine hsame.out.mono ?_; clear hsame; rintro e35 w35 ⟨rfl, hb35⟩; have HB35 := Lib.hid (below_then HB34.out HB34.out.size hb35); clear hb35)
  go_ret
  exact ⟨rfl, HB35.out⟩

set_option maxRecDepth 100000 in
set_option maxHeartbeats 4000000 in
theorem orders_good_true_false (w : World) (A0 : Option Addr) (c0 : Nat) (l : List S31) (da db : DefV) (keya keyb : ByteArray) (Aa Ab : Option Addr) (ca cb : Nat) (hC0 : Kd.C k31 w A0 l.length l) (hc0 : l.length ≤ c0) (hCa : Kd.string.C w Aa da.vars.length da.vars) (hca : da.vars.length ≤ ca) (hCb : Kd.string.C w Ab db.vars.length db.vars) (hcb : db.vars.length ≤ cb) (hfv : fewB l = true) (hsav : smallD da = true) (hsbv : smallD db = true) (hka : ¬ (700 : Int) < (keya.size : Int)) (hkb : ¬ (700 : Int) < (keyb.size : Int)) (s : SnapS) (hres : newGo (l.map dv) snap0 = .inr s) (hrb : rightD db = true) :
    Calls Tryd.prog 4 #[.slice A0 l.length c0, .agg #[.bool true, .int .i64 da.kind, .string da.cls, .string da.sup, .slice Aa da.vars.length ca, .string da.sel, .string da.src, .string keya], .agg #[.bool false, .int .i64 db.kind, .string db.cls, .string db.sup, .slice Ab db.vars.length cb, .string db.sel, .string db.src, .string keyb]] w fun e w' => e = .returned (.bool true) ∧ Below w.heap.size w w' := by
  have hfew : Hid (∀ W, Below w.heap.size w W → Calls Tryd.prog 14 #[.slice A0 l.length c0, .int .i64 10] W fun e w' => e = .returned (.bool true) ∧ Below W.heap.size W w') := Lib.hid (fun W hW => monticuleref07_Few.calls (l.length + 42) A0 c0 l 10 true W (Kd.C_below hC0 hW) hc0 (by rw [← hfv]; exact few_ok l (l.length + 42) 10 (by decide) (by omega)))
  have hsa : Hid (∀ W, Below w.heap.size w W → Calls Tryd.prog 15 #[.agg #[.int .i64 da.kind, .string da.cls, .string da.sup, .slice Aa da.vars.length ca, .string da.sel, .string da.src]] W fun e w' => e = .returned (.bool true) ∧ Below W.heap.size W w') := Lib.hid (fun W hW => monticuleref07_Small.calls 33 da.kind da.cls da.sup Aa ca da.vars da.sel da.src true W (Kd.C_below hCa hW) hca (by rw [← hsav]; exact small_ok 33 da (by decide)))
  have hsb : Hid (∀ W, Below w.heap.size w W → Calls Tryd.prog 15 #[.agg #[.int .i64 db.kind, .string db.cls, .string db.sup, .slice Ab db.vars.length cb, .string db.sel, .string db.src]] W fun e w' => e = .returned (.bool true) ∧ Below W.heap.size W w') := Lib.hid (fun W hW => monticuleref07_Small.calls 33 db.kind db.cls db.sup Ab cb db.vars db.sel db.src true W (Kd.C_below hCb hW) hcb (by rw [← hsbv]; exact small_ok 33 db (by decide)))
  have hbd : ∀ x ∈ l, Bd (dv x) := fun x hx => small_bd (by have h := hfv; unfold fewB at h; rw [Bool.and_eq_true, List.all_eq_true] at h; exact h.2 x hx)
  have hl10 : l.length ≤ 10 := by have h := hfv; unfold fewB at h; rw [Bool.and_eq_true, decide_eq_true_eq] at h; exact h.1
  have hnew : Hid (∀ W, Below w.heap.size w W → Calls Tryd.prog 16 #[.slice A0 l.length c0] W (fun e w' => ∃ g b, e = .returned (.tuple #[.pointer (some ⟨g, 0, none⟩), .int .i64 0]) ∧ w'.heap[g]? = some (.cells #[.map (some b)] 69 (0, 0)) ∧ MapAt w' b s.1 s.2 ∧ Below W.heap.size W w')) := Lib.hid (fun W hW => (by have := new_calls W A0 c0 l (Kd.C_below hC0 hW) hbd (by omega); rw [hres] at this; exact this))
  have hrtb : Hid (∀ W, Below w.heap.size w W → Calls Tryd.prog 17 #[.agg #[.int .i64 db.kind, .string db.cls, .string db.sup, .slice Ab db.vars.length cb, .string db.sel, .string db.src]] W fun e w' => e = .returned (.bool true) ∧ Below W.heap.size W w') := Lib.hid (fun W hW => monticuleref07_Right.calls (2 * db.vars.length + 62) db.kind db.cls db.sup Ab cb db.vars db.sel db.src true W (Kd.C_below hCb hW) hcb (by rw [← hrb]; exact rright_ok (2 * db.vars.length + 62) db hCb.2.1 (small_bd hsbv).sel (by omega)))
  have hkyb : Hid (∀ W, Below w.heap.size w W → Calls Tryd.prog 18 #[.agg #[.int .i64 db.kind, .string db.cls, .string db.sup, .slice Ab db.vars.length cb, .string db.sel, .string db.src]] W fun e w' => e = .returned (.string (keyD db)) ∧ Below W.heap.size W w') := Lib.hid (fun W hW => monticuleref07_Key.calls (2 * db.vars.length + 62) db.kind db.cls db.sup Ab cb db.vars db.sel db.src (keyD db) W (Kd.C_below hCb hW) hcb (rkey_ok (2 * db.vars.length + 62) db hCb.2.1 (small_bd hsbv).sel (by have := (small_bd hsbv).cls; omega) (by omega)))
  obtain ⟨xa, hxa⟩ : ∃ xa : ChgV, xa = ⟨true, da, keya⟩ := ⟨_, rfl⟩
  obtain ⟨xb, hxb⟩ : ∃ xb : ChgV, xb = ⟨false, db, keyb⟩ := ⟨_, rfl⟩
  have hcha : Hid (∀ W p m n F, Below w.heap.size w W → SnapM W p m → SrcMap W m n F → n < 500 → Calls Tryd.prog 19 #[.pointer p, .agg #[.bool true, .int .i64 da.kind, .string da.cls, .string da.sup, .slice Aa da.vars.length ca, .string da.sel, .string da.src, .string keya]] W (ChgPost W (chgS (n, F) xa))) := Lib.hid (fun W p m n F hW h1 h2 h3 => by subst hxa; exact changed_calls W p m n F ⟨true, da, keya⟩ Aa ca h1 h2 (Kd.C_below hCa hW) hca (small_bd hsav) (.inl rfl) (by unfold maxLen; show keya.size ≤ _; omega) h3)
  have hchb : Hid (∀ W p m n F, Below w.heap.size w W → SnapM W p m → SrcMap W m n F → n < 500 → Calls Tryd.prog 19 #[.pointer p, .agg #[.bool false, .int .i64 db.kind, .string db.cls, .string db.sup, .slice Ab db.vars.length cb, .string db.sel, .string db.src, .string keyb]] W (ChgPost W (chgS (n, F) xb))) := Lib.hid (fun W p m n F hW h1 h2 h3 => by subst hxb; exact changed_calls W p m n F ⟨false, db, keyb⟩ Ab cb h1 h2 (Kd.C_below hCb hW) hcb (small_bd hsbv) (.inr hrb) (by unfold maxLen; show keyb.size ≤ _; omega) h3)
  have HSN := Lib.hid (show s.1 ≤ 10 by have h := newGo_count _ _ _ hres; rw [h, List.length_map]; show 0 + _ ≤ _; omega)
  have HXA := Lib.hid hxa
  have HXB := Lib.hid hxb
  clear hxa hxb
  have tok1 : True := trivial
  clear hC0 hc0 hCa hCb hca hcb hfv hsav hsbv hbd hl10 hres hrb
  go_enter Tryd.func4, Tryd.ntmps4
  go_wp2_with (first
    | (go_at_call 13; have _t := tok1; refine (snap_awake _).mono ?_; rintro e0 w0 ⟨rfl, hb0⟩; have HB0 := Lib.hid (Fr.below_two w _ _ hb0); have HPa0 := Lib.hid ((hb0.block w.heap.size (by rw [World.size_alloc, World.size_alloc]; omega)).trans (blk_alloc (heap_alloc_new w (.cells #[.bool true, .int .i64 da.kind, .string da.cls, .string da.sup, .slice Aa da.vars.length ca, .string da.sel, .string da.src, .string keya] 43)) _)); have HPb0 := Lib.hid ((hb0.block (w.heap.size + 1) (by rw [World.size_alloc, World.size_alloc]; omega)).trans (alloc_second w _ (.cells #[.bool false, .int .i64 db.kind, .string db.cls, .string db.sup, .slice Ab db.vars.length cb, .string db.sel, .string db.src, .string keyb] 43))); have qa0 := fun i => blk_cell HPa0.out i; have qb0 := fun i => blk_cell HPb0.out i; clear hb0 tok1 _t)
    | (go_at_call 14; refine (hfew.out _ HB0.out).mono ?_; rintro e1 w1 ⟨rfl, hb1⟩; have HB1 := Lib.hid (below_then HB0.out HB0.out.size hb1); have HPa1 := Lib.hid ((hb1.block _ (blk_lt HPa0.out)).trans HPa0.out); have HPb1 := Lib.hid ((hb1.block _ (blk_lt HPb0.out)).trans HPb0.out); have qa1 := fun i => blk_cell HPa1.out i; have qb1 := fun i => blk_cell HPb1.out i; clear qa0 qb0; clear hb1 hfew)
    | (go_at_call 15; refine (hsa.out _ HB1.out).mono ?_; rintro e2 w2 ⟨rfl, hb2⟩; have HB2 := Lib.hid (below_then HB1.out HB1.out.size hb2); have HPa2 := Lib.hid ((hb2.block _ (blk_lt HPa1.out)).trans HPa1.out); have HPb2 := Lib.hid ((hb2.block _ (blk_lt HPb1.out)).trans HPb1.out); have qa2 := fun i => blk_cell HPa2.out i; have qb2 := fun i => blk_cell HPb2.out i; clear qa1 qb1; clear hb2 hsa)
    | (go_at_call 15; refine (hsb.out _ HB2.out).mono ?_; rintro e3 w3 ⟨rfl, hb3⟩; have HB3 := Lib.hid (below_then HB2.out HB2.out.size hb3); have HPa3 := Lib.hid ((hb3.block _ (blk_lt HPa2.out)).trans HPa2.out); have HPb3 := Lib.hid ((hb3.block _ (blk_lt HPb2.out)).trans HPb2.out); have qa3 := fun i => blk_cell HPa3.out i; have qb3 := fun i => blk_cell HPb3.out i; clear qa2 qb2; clear hb3 hsb)
    | (go_at_call 16; refine (hnew.out _ HB3.out).mono ?_; rintro e4 w4 ⟨g, bm, rfl, hg4, hm4, hb4⟩; have HB4 := Lib.hid (below_then HB3.out HB3.out.size hb4); have HG4 := Lib.hid hg4; have HM4 := Lib.hid hm4; have HPa4 := Lib.hid ((hb4.block _ (blk_lt HPa3.out)).trans HPa3.out); have HPb4 := Lib.hid ((hb4.block _ (blk_lt HPb3.out)).trans HPb3.out); have qa4 := fun i => blk_cell HPa4.out i; have qb4 := fun i => blk_cell HPb4.out i; clear qa3 qb3; clear hb4 hnew hg4 hm4)
    | (go_at_call 17; refine (hrtb.out _ HB4.out).mono ?_; rintro e5 w5 ⟨rfl, hb5⟩; have HB5 := Lib.hid (below_then HB4.out HB4.out.size hb5); have HBN5 := Lib.hid (hb5); have HPa5 := Lib.hid ((hb5.block _ (blk_lt HPa4.out)).trans HPa4.out); have HPb5 := Lib.hid ((hb5.block _ (blk_lt HPb4.out)).trans HPb4.out); have qa5 := fun i => blk_cell HPa5.out i; have qb5 := fun i => blk_cell HPb5.out i; clear qa4 qb4; clear hb5 hrtb))
  have HB20 := Lib.hid (below_drew HB5.out)
  have HPa20 := Lib.hid ((Fr.drew (Fr.refl (fun _ => False) w5)).heap HPa5.out (fun h => h))
  have HPb20 := Lib.hid ((Fr.drew (Fr.refl (fun _ => False) w5)).heap HPb5.out (fun h => h))
  have HSr : Hid (w5.drew.cell? ⟨w.heap.size, 7, none⟩ = some (.string keya) ∧ w5.drew.cell? ⟨w.heap.size + 1, 7, none⟩ = some (.string keyb)) := Lib.hid ⟨blk_cell HPa20.out 7, blk_cell HPb20.out 7⟩
  go_region_held3 (fun W => W.cell? ⟨w.heap.size, 7, none⟩ = some (.string keya) ∧ W.cell? ⟨w.heap.size + 1, 7, none⟩ = some (.string keyb)) (exact HSr.out) (fail)
  clear qa5 qb5 HSr
  have HMM : Hid (Below w4.heap.size w4 w5.drew) := Lib.hid (below_drew HBN5.out)
  generalize w5.drew = w20 at *
  have qa20 := fun i => blk_cell HPa20.out i
  have qb20 := fun i => blk_cell HPb20.out i
  go_wp2_with (first
    | (go_at_call 18; refine (hkyb.out _ HB20.out).mono ?_; rintro e21 w21 ⟨rfl, hb21⟩; have HB21 := Lib.hid (below_then HB20.out HB20.out.size hb21); have HBN21 := Lib.hid (below_then HMM.out HMM.out.size hb21); have HPa21 := Lib.hid ((hb21.block _ (blk_lt HPa20.out)).trans HPa20.out); have HPb21 := Lib.hid ((hb21.block _ (blk_lt HPb20.out)).trans HPb20.out); have qa21 := fun i => blk_cell HPa21.out i; have qb21 := fun i => blk_cell HPb21.out i; clear qa20 qb20; clear hb21 hkyb))
  all_goals try (go_ret; exact ⟨rfl, (by first | exact HB22.out | exact HB21.out | exact HB20.out)⟩)
  have HBd := Lib.hid (below_drew HB21.out)
  have HNd := Lib.hid (below_drew HBN21.out)
  have HPad := Lib.hid ((Fr.drew (Fr.refl (fun _ => False) w21)).heap HPa21.out (fun h => h))
  have HPbd := Lib.hid ((Fr.drew (Fr.refl (fun _ => False) w21)).heap HPb21.out (fun h => h))
  have HSd := Lib.hid (ord_s HPad.out HPbd.out)
  have hne : chgK xa ≠ chgK xb := by
    rw [HXA.out, HXB.out]
    have h : ((keya).toList == (keyD db).toList) = false := by assumption
    rw [tl_beq, decide_eq_false_iff_not] at h
    exact h
  have HE := Lib.hid (chg_comm s xa xb hne)
  clear hne
  have tokc1 : True := trivial
  have tokc2 : True := trivial
  have tokc3 : True := trivial
  have tokc4 : True := trivial
  clear qa21 qb21
  go_region_held3 (fun W => W.cell? ⟨w.heap.size, 0, none⟩ = some (.bool true) ∧ W.cell? ⟨w.heap.size, 1, none⟩ = some (.int .i64 da.kind) ∧ W.cell? ⟨w.heap.size, 2, none⟩ = some (.string da.cls) ∧ W.cell? ⟨w.heap.size, 3, none⟩ = some (.string da.sup) ∧ W.cell? ⟨w.heap.size, 4, none⟩ = some (.slice Aa da.vars.length ca) ∧ W.cell? ⟨w.heap.size, 5, none⟩ = some (.string da.sel) ∧ W.cell? ⟨w.heap.size, 6, none⟩ = some (.string da.src) ∧ W.cell? ⟨w.heap.size, 7, none⟩ = some (.string keya) ∧ W.cell? ⟨w.heap.size + 1, 0, none⟩ = some (.bool false) ∧ W.cell? ⟨w.heap.size + 1, 1, none⟩ = some (.int .i64 db.kind) ∧ W.cell? ⟨w.heap.size + 1, 2, none⟩ = some (.string db.cls) ∧ W.cell? ⟨w.heap.size + 1, 3, none⟩ = some (.string db.sup) ∧ W.cell? ⟨w.heap.size + 1, 4, none⟩ = some (.slice Ab db.vars.length cb) ∧ W.cell? ⟨w.heap.size + 1, 5, none⟩ = some (.string db.sel) ∧ W.cell? ⟨w.heap.size + 1, 6, none⟩ = some (.string db.src) ∧ W.cell? ⟨w.heap.size + 1, 7, none⟩ = some (.string keyb)) (first | exact HS34.out | exact HS33.out | exact HS32.out | exact HS31.out | exact HSd.out)
    (first
    | (go_at_call 19; have _t := tokc1; refine (hcha.out _ (some ⟨g, 0, none⟩) (some bm) s.1 s.2 HBd.out (.inr ⟨g, rfl, (HNd.out.block _ (blk_lt HG4.out)).trans HG4.out⟩) (HM4.out.below HNd.out) (by have h1 := HSN.out; have h2 := chg_count s xa; have h3 := chg_count s xb; omega)).mono ?_; rintro e31 w31 ⟨g31, b31, rfl, hg31, hm31, hb31⟩; have HG31 := Lib.hid hg31; have HM31 := Lib.hid hm31; have HC31 := Lib.hid hb31; have HB31 := Lib.hid (below_then HBd.out HBd.out.size hb31); have HPa31 := Lib.hid ((hb31.block _ (blk_lt HPad.out)).trans HPad.out); have HPb31 := Lib.hid ((hb31.block _ (blk_lt HPbd.out)).trans HPbd.out); have HS31 := Lib.hid (ord_s HPa31.out HPb31.out); clear hg31 hm31 hb31 tokc1 _t)
    | (go_at_call 19; have _t := tokc2; refine (hchb.out _ (some ⟨g31, 0, none⟩) (some b31) (chgS s xa).1 (chgS s xa).2 HB31.out (.inr ⟨g31, rfl, HG31.out⟩) HM31.out (by have h1 := HSN.out; have h2 := chg_count s xa; have h3 := chg_count s xb; omega)).mono ?_; rintro e32 w32 ⟨g32, b32, rfl, hg32, hm32, hb32⟩; have HG32 := Lib.hid hg32; have HM32 := Lib.hid hm32; have HC32 := Lib.hid hb32; have HB32 := Lib.hid (below_then HB31.out HB31.out.size hb32); have HPa32 := Lib.hid ((hb32.block _ (blk_lt HPa31.out)).trans HPa31.out); have HPb32 := Lib.hid ((hb32.block _ (blk_lt HPb31.out)).trans HPb31.out); have HS32 := Lib.hid (ord_s HPa32.out HPb32.out); clear hg32 hm32 hb32 tokc2 _t)
    | (go_at_call 19; have _t := tokc3; refine (hchb.out _ (some ⟨g, 0, none⟩) (some bm) s.1 s.2 HB32.out (.inr ⟨g, rfl, ((below_then (below_then HNd.out HNd.out.size HC31.out) (by have := HNd.out.size; have := HC31.out.size; omega) HC32.out).block _ (blk_lt HG4.out)).trans HG4.out⟩) (HM4.out.below (below_then (below_then HNd.out HNd.out.size HC31.out) (by have := HNd.out.size; have := HC31.out.size; omega) HC32.out)) (by have h1 := HSN.out; have h2 := chg_count s xa; have h3 := chg_count s xb; omega)).mono ?_; rintro e33 w33 ⟨g33, b33, rfl, hg33, hm33, hb33⟩; have HG33 := Lib.hid hg33; have HM33 := Lib.hid hm33; have HC33 := Lib.hid hb33; have HB33 := Lib.hid (below_then HB32.out HB32.out.size hb33); have HPa33 := Lib.hid ((hb33.block _ (blk_lt HPa32.out)).trans HPa32.out); have HPb33 := Lib.hid ((hb33.block _ (blk_lt HPb32.out)).trans HPb32.out); have HS33 := Lib.hid (ord_s HPa33.out HPb33.out); clear hg33 hm33 hb33 tokc3 _t)
    | (go_at_call 19; have _t := tokc4; refine (hcha.out _ (some ⟨g33, 0, none⟩) (some b33) (chgS s xb).1 (chgS s xb).2 HB33.out (.inr ⟨g33, rfl, HG33.out⟩) HM33.out (by have h1 := HSN.out; have h2 := chg_count s xa; have h3 := chg_count s xb; omega)).mono ?_; rintro e34 w34 ⟨g34, b34, rfl, hg34, hm34, hb34⟩; have HG34 := Lib.hid hg34; have HM34 := Lib.hid hm34; have HC34 := Lib.hid hb34; have HB34 := Lib.hid (below_then HB33.out HB33.out.size hb34); have HPa34 := Lib.hid ((hb34.block _ (blk_lt HPa33.out)).trans HPa33.out); have HPb34 := Lib.hid ((hb34.block _ (blk_lt HPb33.out)).trans HPb33.out); have HS34 := Lib.hid (ord_s HPa34.out HPb34.out); clear hg34 hm34 hb34 tokc4 _t))
  have hbl := below_then HC33.out HC33.out.size HC34.out
  have h1 := HM32.out.below hbl
  have h2 := HM34.out
  have he : (chgS (chgS s xb) xa).2 = (chgS (chgS s xa) xb).2 := HE.out.symm
  rw [he] at h2
  have hn := MapAt.size_eq h1 h2
  rw [← hn] at h2
  have hsame := Lib.hid (same_calls w34 (some ⟨g32, 0, none⟩) (some ⟨g34, 0, none⟩) b32 b34 _ _ (.inr ⟨g32, rfl, (hbl.block _ (blk_lt HG32.out)).trans HG32.out⟩) (.inr ⟨g34, rfl, HG34.out⟩) h1 h2)
  clear h1 h2 he hn hbl hcha hchb
  go_wp2_with (go_at_call 20; refine hsame.out.mono ?_; clear hsame; rintro e35 w35 ⟨rfl, hb35⟩; have HB35 := Lib.hid (below_then HB34.out HB34.out.size hb35); clear hb35)
  go_ret
  exact ⟨rfl, HB35.out⟩

set_option maxRecDepth 100000 in
set_option maxHeartbeats 4000000 in
theorem orders_good_false_true (w : World) (A0 : Option Addr) (c0 : Nat) (l : List S31) (da db : DefV) (keya keyb : ByteArray) (Aa Ab : Option Addr) (ca cb : Nat) (hC0 : Kd.C k31 w A0 l.length l) (hc0 : l.length ≤ c0) (hCa : Kd.string.C w Aa da.vars.length da.vars) (hca : da.vars.length ≤ ca) (hCb : Kd.string.C w Ab db.vars.length db.vars) (hcb : db.vars.length ≤ cb) (hfv : fewB l = true) (hsav : smallD da = true) (hsbv : smallD db = true) (hka : ¬ (700 : Int) < (keya.size : Int)) (hkb : ¬ (700 : Int) < (keyb.size : Int)) (s : SnapS) (hres : newGo (l.map dv) snap0 = .inr s) (hra : rightD da = true) :
    Calls Tryd.prog 4 #[.slice A0 l.length c0, .agg #[.bool false, .int .i64 da.kind, .string da.cls, .string da.sup, .slice Aa da.vars.length ca, .string da.sel, .string da.src, .string keya], .agg #[.bool true, .int .i64 db.kind, .string db.cls, .string db.sup, .slice Ab db.vars.length cb, .string db.sel, .string db.src, .string keyb]] w fun e w' => e = .returned (.bool true) ∧ Below w.heap.size w w' := by
  have hfew : Hid (∀ W, Below w.heap.size w W → Calls Tryd.prog 14 #[.slice A0 l.length c0, .int .i64 10] W fun e w' => e = .returned (.bool true) ∧ Below W.heap.size W w') := Lib.hid (fun W hW => monticuleref07_Few.calls (l.length + 42) A0 c0 l 10 true W (Kd.C_below hC0 hW) hc0 (by rw [← hfv]; exact few_ok l (l.length + 42) 10 (by decide) (by omega)))
  have hsa : Hid (∀ W, Below w.heap.size w W → Calls Tryd.prog 15 #[.agg #[.int .i64 da.kind, .string da.cls, .string da.sup, .slice Aa da.vars.length ca, .string da.sel, .string da.src]] W fun e w' => e = .returned (.bool true) ∧ Below W.heap.size W w') := Lib.hid (fun W hW => monticuleref07_Small.calls 33 da.kind da.cls da.sup Aa ca da.vars da.sel da.src true W (Kd.C_below hCa hW) hca (by rw [← hsav]; exact small_ok 33 da (by decide)))
  have hsb : Hid (∀ W, Below w.heap.size w W → Calls Tryd.prog 15 #[.agg #[.int .i64 db.kind, .string db.cls, .string db.sup, .slice Ab db.vars.length cb, .string db.sel, .string db.src]] W fun e w' => e = .returned (.bool true) ∧ Below W.heap.size W w') := Lib.hid (fun W hW => monticuleref07_Small.calls 33 db.kind db.cls db.sup Ab cb db.vars db.sel db.src true W (Kd.C_below hCb hW) hcb (by rw [← hsbv]; exact small_ok 33 db (by decide)))
  have hbd : ∀ x ∈ l, Bd (dv x) := fun x hx => small_bd (by have h := hfv; unfold fewB at h; rw [Bool.and_eq_true, List.all_eq_true] at h; exact h.2 x hx)
  have hl10 : l.length ≤ 10 := by have h := hfv; unfold fewB at h; rw [Bool.and_eq_true, decide_eq_true_eq] at h; exact h.1
  have hnew : Hid (∀ W, Below w.heap.size w W → Calls Tryd.prog 16 #[.slice A0 l.length c0] W (fun e w' => ∃ g b, e = .returned (.tuple #[.pointer (some ⟨g, 0, none⟩), .int .i64 0]) ∧ w'.heap[g]? = some (.cells #[.map (some b)] 69 (0, 0)) ∧ MapAt w' b s.1 s.2 ∧ Below W.heap.size W w')) := Lib.hid (fun W hW => (by have := new_calls W A0 c0 l (Kd.C_below hC0 hW) hbd (by omega); rw [hres] at this; exact this))
  have hrta : Hid (∀ W, Below w.heap.size w W → Calls Tryd.prog 17 #[.agg #[.int .i64 da.kind, .string da.cls, .string da.sup, .slice Aa da.vars.length ca, .string da.sel, .string da.src]] W fun e w' => e = .returned (.bool true) ∧ Below W.heap.size W w') := Lib.hid (fun W hW => monticuleref07_Right.calls (2 * da.vars.length + 62) da.kind da.cls da.sup Aa ca da.vars da.sel da.src true W (Kd.C_below hCa hW) hca (by rw [← hra]; exact rright_ok (2 * da.vars.length + 62) da hCa.2.1 (small_bd hsav).sel (by omega)))
  have hkya : Hid (∀ W, Below w.heap.size w W → Calls Tryd.prog 18 #[.agg #[.int .i64 da.kind, .string da.cls, .string da.sup, .slice Aa da.vars.length ca, .string da.sel, .string da.src]] W fun e w' => e = .returned (.string (keyD da)) ∧ Below W.heap.size W w') := Lib.hid (fun W hW => monticuleref07_Key.calls (2 * da.vars.length + 62) da.kind da.cls da.sup Aa ca da.vars da.sel da.src (keyD da) W (Kd.C_below hCa hW) hca (rkey_ok (2 * da.vars.length + 62) da hCa.2.1 (small_bd hsav).sel (by have := (small_bd hsav).cls; omega) (by omega)))
  obtain ⟨xa, hxa⟩ : ∃ xa : ChgV, xa = ⟨false, da, keya⟩ := ⟨_, rfl⟩
  obtain ⟨xb, hxb⟩ : ∃ xb : ChgV, xb = ⟨true, db, keyb⟩ := ⟨_, rfl⟩
  have hcha : Hid (∀ W p m n F, Below w.heap.size w W → SnapM W p m → SrcMap W m n F → n < 500 → Calls Tryd.prog 19 #[.pointer p, .agg #[.bool false, .int .i64 da.kind, .string da.cls, .string da.sup, .slice Aa da.vars.length ca, .string da.sel, .string da.src, .string keya]] W (ChgPost W (chgS (n, F) xa))) := Lib.hid (fun W p m n F hW h1 h2 h3 => by subst hxa; exact changed_calls W p m n F ⟨false, da, keya⟩ Aa ca h1 h2 (Kd.C_below hCa hW) hca (small_bd hsav) (.inr hra) (by unfold maxLen; show keya.size ≤ _; omega) h3)
  have hchb : Hid (∀ W p m n F, Below w.heap.size w W → SnapM W p m → SrcMap W m n F → n < 500 → Calls Tryd.prog 19 #[.pointer p, .agg #[.bool true, .int .i64 db.kind, .string db.cls, .string db.sup, .slice Ab db.vars.length cb, .string db.sel, .string db.src, .string keyb]] W (ChgPost W (chgS (n, F) xb))) := Lib.hid (fun W p m n F hW h1 h2 h3 => by subst hxb; exact changed_calls W p m n F ⟨true, db, keyb⟩ Ab cb h1 h2 (Kd.C_below hCb hW) hcb (small_bd hsbv) (.inl rfl) (by unfold maxLen; show keyb.size ≤ _; omega) h3)
  have HSN := Lib.hid (show s.1 ≤ 10 by have h := newGo_count _ _ _ hres; rw [h, List.length_map]; show 0 + _ ≤ _; omega)
  have HXA := Lib.hid hxa
  have HXB := Lib.hid hxb
  clear hxa hxb
  have tok1 : True := trivial
  clear hC0 hc0 hCa hCb hca hcb hfv hsav hsbv hbd hl10 hres hra
  go_enter Tryd.func4, Tryd.ntmps4
  go_wp2_with (first
    | (go_at_call 13; have _t := tok1; refine (snap_awake _).mono ?_; rintro e0 w0 ⟨rfl, hb0⟩; have HB0 := Lib.hid (Fr.below_two w _ _ hb0); have HPa0 := Lib.hid ((hb0.block w.heap.size (by rw [World.size_alloc, World.size_alloc]; omega)).trans (blk_alloc (heap_alloc_new w (.cells #[.bool false, .int .i64 da.kind, .string da.cls, .string da.sup, .slice Aa da.vars.length ca, .string da.sel, .string da.src, .string keya] 43)) _)); have HPb0 := Lib.hid ((hb0.block (w.heap.size + 1) (by rw [World.size_alloc, World.size_alloc]; omega)).trans (alloc_second w _ (.cells #[.bool true, .int .i64 db.kind, .string db.cls, .string db.sup, .slice Ab db.vars.length cb, .string db.sel, .string db.src, .string keyb] 43))); have qa0 := fun i => blk_cell HPa0.out i; have qb0 := fun i => blk_cell HPb0.out i; clear hb0 tok1 _t)
    | (go_at_call 14; refine (hfew.out _ HB0.out).mono ?_; rintro e1 w1 ⟨rfl, hb1⟩; have HB1 := Lib.hid (below_then HB0.out HB0.out.size hb1); have HPa1 := Lib.hid ((hb1.block _ (blk_lt HPa0.out)).trans HPa0.out); have HPb1 := Lib.hid ((hb1.block _ (blk_lt HPb0.out)).trans HPb0.out); have qa1 := fun i => blk_cell HPa1.out i; have qb1 := fun i => blk_cell HPb1.out i; clear qa0 qb0; clear hb1 hfew)
    | (go_at_call 15; refine (hsa.out _ HB1.out).mono ?_; rintro e2 w2 ⟨rfl, hb2⟩; have HB2 := Lib.hid (below_then HB1.out HB1.out.size hb2); have HPa2 := Lib.hid ((hb2.block _ (blk_lt HPa1.out)).trans HPa1.out); have HPb2 := Lib.hid ((hb2.block _ (blk_lt HPb1.out)).trans HPb1.out); have qa2 := fun i => blk_cell HPa2.out i; have qb2 := fun i => blk_cell HPb2.out i; clear qa1 qb1; clear hb2 hsa)
    | (go_at_call 15; refine (hsb.out _ HB2.out).mono ?_; rintro e3 w3 ⟨rfl, hb3⟩; have HB3 := Lib.hid (below_then HB2.out HB2.out.size hb3); have HPa3 := Lib.hid ((hb3.block _ (blk_lt HPa2.out)).trans HPa2.out); have HPb3 := Lib.hid ((hb3.block _ (blk_lt HPb2.out)).trans HPb2.out); have qa3 := fun i => blk_cell HPa3.out i; have qb3 := fun i => blk_cell HPb3.out i; clear qa2 qb2; clear hb3 hsb)
    | (go_at_call 16; refine (hnew.out _ HB3.out).mono ?_; rintro e4 w4 ⟨g, bm, rfl, hg4, hm4, hb4⟩; have HB4 := Lib.hid (below_then HB3.out HB3.out.size hb4); have HG4 := Lib.hid hg4; have HM4 := Lib.hid hm4; have HPa4 := Lib.hid ((hb4.block _ (blk_lt HPa3.out)).trans HPa3.out); have HPb4 := Lib.hid ((hb4.block _ (blk_lt HPb3.out)).trans HPb3.out); have qa4 := fun i => blk_cell HPa4.out i; have qb4 := fun i => blk_cell HPb4.out i; clear qa3 qb3; clear hb4 hnew hg4 hm4)
    | (go_at_call 17; refine (hrta.out _ HB4.out).mono ?_; rintro e5 w5 ⟨rfl, hb5⟩; have HB5 := Lib.hid (below_then HB4.out HB4.out.size hb5); have HBN5 := Lib.hid (hb5); have HPa5 := Lib.hid ((hb5.block _ (blk_lt HPa4.out)).trans HPa4.out); have HPb5 := Lib.hid ((hb5.block _ (blk_lt HPb4.out)).trans HPb4.out); have qa5 := fun i => blk_cell HPa5.out i; have qb5 := fun i => blk_cell HPb5.out i; clear qa4 qb4; clear hb5 hrta))
  have HB20 := Lib.hid (below_drew HB5.out)
  have HPa20 := Lib.hid ((Fr.drew (Fr.refl (fun _ => False) w5)).heap HPa5.out (fun h => h))
  have HPb20 := Lib.hid ((Fr.drew (Fr.refl (fun _ => False) w5)).heap HPb5.out (fun h => h))
  have HSr : Hid (w5.drew.cell? ⟨w.heap.size, 7, none⟩ = some (.string keya) ∧ w5.drew.cell? ⟨w.heap.size + 1, 7, none⟩ = some (.string keyb)) := Lib.hid ⟨blk_cell HPa20.out 7, blk_cell HPb20.out 7⟩
  go_region_held3 (fun W => W.cell? ⟨w.heap.size, 7, none⟩ = some (.string keya) ∧ W.cell? ⟨w.heap.size + 1, 7, none⟩ = some (.string keyb)) (exact HSr.out) (fail)
  clear qa5 qb5 HSr
  have HMM : Hid (Below w4.heap.size w4 w5.drew) := Lib.hid (below_drew HBN5.out)
  generalize w5.drew = w20 at *
  have qa20 := fun i => blk_cell HPa20.out i
  have qb20 := fun i => blk_cell HPb20.out i
  go_wp2_with (first
    | (go_at_call 18; refine (hkya.out _ HB20.out).mono ?_; rintro e21 w21 ⟨rfl, hb21⟩; have HB21 := Lib.hid (below_then HB20.out HB20.out.size hb21); have HBN21 := Lib.hid (below_then HMM.out HMM.out.size hb21); have HPa21 := Lib.hid ((hb21.block _ (blk_lt HPa20.out)).trans HPa20.out); have HPb21 := Lib.hid ((hb21.block _ (blk_lt HPb20.out)).trans HPb20.out); have qa21 := fun i => blk_cell HPa21.out i; have qb21 := fun i => blk_cell HPb21.out i; clear qa20 qb20; clear hb21 hkya))
  all_goals try (go_ret; exact ⟨rfl, (by first | exact HB22.out | exact HB21.out | exact HB20.out)⟩)
  have HBd := Lib.hid (below_drew HB21.out)
  have HNd := Lib.hid (below_drew HBN21.out)
  have HPad := Lib.hid ((Fr.drew (Fr.refl (fun _ => False) w21)).heap HPa21.out (fun h => h))
  have HPbd := Lib.hid ((Fr.drew (Fr.refl (fun _ => False) w21)).heap HPb21.out (fun h => h))
  have HSd := Lib.hid (ord_s HPad.out HPbd.out)
  have hne : chgK xa ≠ chgK xb := by
    rw [HXA.out, HXB.out]
    have h : ((keyD da).toList == (keyb).toList) = false := by assumption
    rw [tl_beq, decide_eq_false_iff_not] at h
    exact h
  have HE := Lib.hid (chg_comm s xa xb hne)
  clear hne
  have tokc1 : True := trivial
  have tokc2 : True := trivial
  have tokc3 : True := trivial
  have tokc4 : True := trivial
  clear qa21 qb21
  go_region_held3 (fun W => W.cell? ⟨w.heap.size, 0, none⟩ = some (.bool false) ∧ W.cell? ⟨w.heap.size, 1, none⟩ = some (.int .i64 da.kind) ∧ W.cell? ⟨w.heap.size, 2, none⟩ = some (.string da.cls) ∧ W.cell? ⟨w.heap.size, 3, none⟩ = some (.string da.sup) ∧ W.cell? ⟨w.heap.size, 4, none⟩ = some (.slice Aa da.vars.length ca) ∧ W.cell? ⟨w.heap.size, 5, none⟩ = some (.string da.sel) ∧ W.cell? ⟨w.heap.size, 6, none⟩ = some (.string da.src) ∧ W.cell? ⟨w.heap.size, 7, none⟩ = some (.string keya) ∧ W.cell? ⟨w.heap.size + 1, 0, none⟩ = some (.bool true) ∧ W.cell? ⟨w.heap.size + 1, 1, none⟩ = some (.int .i64 db.kind) ∧ W.cell? ⟨w.heap.size + 1, 2, none⟩ = some (.string db.cls) ∧ W.cell? ⟨w.heap.size + 1, 3, none⟩ = some (.string db.sup) ∧ W.cell? ⟨w.heap.size + 1, 4, none⟩ = some (.slice Ab db.vars.length cb) ∧ W.cell? ⟨w.heap.size + 1, 5, none⟩ = some (.string db.sel) ∧ W.cell? ⟨w.heap.size + 1, 6, none⟩ = some (.string db.src) ∧ W.cell? ⟨w.heap.size + 1, 7, none⟩ = some (.string keyb)) (first | exact HS34.out | exact HS33.out | exact HS32.out | exact HS31.out | exact HSd.out)
    (first
    | (go_at_call 19; have _t := tokc1; refine (hcha.out _ (some ⟨g, 0, none⟩) (some bm) s.1 s.2 HBd.out (.inr ⟨g, rfl, (HNd.out.block _ (blk_lt HG4.out)).trans HG4.out⟩) (HM4.out.below HNd.out) (by have h1 := HSN.out; have h2 := chg_count s xa; have h3 := chg_count s xb; omega)).mono ?_; rintro e31 w31 ⟨g31, b31, rfl, hg31, hm31, hb31⟩; have HG31 := Lib.hid hg31; have HM31 := Lib.hid hm31; have HC31 := Lib.hid hb31; have HB31 := Lib.hid (below_then HBd.out HBd.out.size hb31); have HPa31 := Lib.hid ((hb31.block _ (blk_lt HPad.out)).trans HPad.out); have HPb31 := Lib.hid ((hb31.block _ (blk_lt HPbd.out)).trans HPbd.out); have HS31 := Lib.hid (ord_s HPa31.out HPb31.out); clear hg31 hm31 hb31 tokc1 _t)
    | (go_at_call 19; have _t := tokc2; refine (hchb.out _ (some ⟨g31, 0, none⟩) (some b31) (chgS s xa).1 (chgS s xa).2 HB31.out (.inr ⟨g31, rfl, HG31.out⟩) HM31.out (by have h1 := HSN.out; have h2 := chg_count s xa; have h3 := chg_count s xb; omega)).mono ?_; rintro e32 w32 ⟨g32, b32, rfl, hg32, hm32, hb32⟩; have HG32 := Lib.hid hg32; have HM32 := Lib.hid hm32; have HC32 := Lib.hid hb32; have HB32 := Lib.hid (below_then HB31.out HB31.out.size hb32); have HPa32 := Lib.hid ((hb32.block _ (blk_lt HPa31.out)).trans HPa31.out); have HPb32 := Lib.hid ((hb32.block _ (blk_lt HPb31.out)).trans HPb31.out); have HS32 := Lib.hid (ord_s HPa32.out HPb32.out); clear hg32 hm32 hb32 tokc2 _t)
    | (go_at_call 19; have _t := tokc3; refine (hchb.out _ (some ⟨g, 0, none⟩) (some bm) s.1 s.2 HB32.out (.inr ⟨g, rfl, ((below_then (below_then HNd.out HNd.out.size HC31.out) (by have := HNd.out.size; have := HC31.out.size; omega) HC32.out).block _ (blk_lt HG4.out)).trans HG4.out⟩) (HM4.out.below (below_then (below_then HNd.out HNd.out.size HC31.out) (by have := HNd.out.size; have := HC31.out.size; omega) HC32.out)) (by have h1 := HSN.out; have h2 := chg_count s xa; have h3 := chg_count s xb; omega)).mono ?_; rintro e33 w33 ⟨g33, b33, rfl, hg33, hm33, hb33⟩; have HG33 := Lib.hid hg33; have HM33 := Lib.hid hm33; have HC33 := Lib.hid hb33; have HB33 := Lib.hid (below_then HB32.out HB32.out.size hb33); have HPa33 := Lib.hid ((hb33.block _ (blk_lt HPa32.out)).trans HPa32.out); have HPb33 := Lib.hid ((hb33.block _ (blk_lt HPb32.out)).trans HPb32.out); have HS33 := Lib.hid (ord_s HPa33.out HPb33.out); clear hg33 hm33 hb33 tokc3 _t)
    | (go_at_call 19; have _t := tokc4; refine (hcha.out _ (some ⟨g33, 0, none⟩) (some b33) (chgS s xb).1 (chgS s xb).2 HB33.out (.inr ⟨g33, rfl, HG33.out⟩) HM33.out (by have h1 := HSN.out; have h2 := chg_count s xa; have h3 := chg_count s xb; omega)).mono ?_; rintro e34 w34 ⟨g34, b34, rfl, hg34, hm34, hb34⟩; have HG34 := Lib.hid hg34; have HM34 := Lib.hid hm34; have HC34 := Lib.hid hb34; have HB34 := Lib.hid (below_then HB33.out HB33.out.size hb34); have HPa34 := Lib.hid ((hb34.block _ (blk_lt HPa33.out)).trans HPa33.out); have HPb34 := Lib.hid ((hb34.block _ (blk_lt HPb33.out)).trans HPb33.out); have HS34 := Lib.hid (ord_s HPa34.out HPb34.out); clear hg34 hm34 hb34 tokc4 _t))
  have hbl := below_then HC33.out HC33.out.size HC34.out
  have h1 := HM32.out.below hbl
  have h2 := HM34.out
  have he : (chgS (chgS s xb) xa).2 = (chgS (chgS s xa) xb).2 := HE.out.symm
  rw [he] at h2
  have hn := MapAt.size_eq h1 h2
  rw [← hn] at h2
  have hsame := Lib.hid (same_calls w34 (some ⟨g32, 0, none⟩) (some ⟨g34, 0, none⟩) b32 b34 _ _ (.inr ⟨g32, rfl, (hbl.block _ (blk_lt HG32.out)).trans HG32.out⟩) (.inr ⟨g34, rfl, HG34.out⟩) h1 h2)
  clear h1 h2 he hn hbl hcha hchb
  go_wp2_with (go_at_call 20; refine hsame.out.mono ?_; clear hsame; rintro e35 w35 ⟨rfl, hb35⟩; have HB35 := Lib.hid (below_then HB34.out HB34.out.size hb35); clear hb35)
  go_ret
  exact ⟨rfl, HB35.out⟩

set_option maxRecDepth 100000 in
set_option maxHeartbeats 4000000 in
theorem orders_good_false_false (w : World) (A0 : Option Addr) (c0 : Nat) (l : List S31) (da db : DefV) (keya keyb : ByteArray) (Aa Ab : Option Addr) (ca cb : Nat) (hC0 : Kd.C k31 w A0 l.length l) (hc0 : l.length ≤ c0) (hCa : Kd.string.C w Aa da.vars.length da.vars) (hca : da.vars.length ≤ ca) (hCb : Kd.string.C w Ab db.vars.length db.vars) (hcb : db.vars.length ≤ cb) (hfv : fewB l = true) (hsav : smallD da = true) (hsbv : smallD db = true) (hka : ¬ (700 : Int) < (keya.size : Int)) (hkb : ¬ (700 : Int) < (keyb.size : Int)) (s : SnapS) (hres : newGo (l.map dv) snap0 = .inr s) (hra : rightD da = true) (hrb : rightD db = true) :
    Calls Tryd.prog 4 #[.slice A0 l.length c0, .agg #[.bool false, .int .i64 da.kind, .string da.cls, .string da.sup, .slice Aa da.vars.length ca, .string da.sel, .string da.src, .string keya], .agg #[.bool false, .int .i64 db.kind, .string db.cls, .string db.sup, .slice Ab db.vars.length cb, .string db.sel, .string db.src, .string keyb]] w fun e w' => e = .returned (.bool true) ∧ Below w.heap.size w w' := by
  have hfew : Hid (∀ W, Below w.heap.size w W → Calls Tryd.prog 14 #[.slice A0 l.length c0, .int .i64 10] W fun e w' => e = .returned (.bool true) ∧ Below W.heap.size W w') := Lib.hid (fun W hW => monticuleref07_Few.calls (l.length + 42) A0 c0 l 10 true W (Kd.C_below hC0 hW) hc0 (by rw [← hfv]; exact few_ok l (l.length + 42) 10 (by decide) (by omega)))
  have hsa : Hid (∀ W, Below w.heap.size w W → Calls Tryd.prog 15 #[.agg #[.int .i64 da.kind, .string da.cls, .string da.sup, .slice Aa da.vars.length ca, .string da.sel, .string da.src]] W fun e w' => e = .returned (.bool true) ∧ Below W.heap.size W w') := Lib.hid (fun W hW => monticuleref07_Small.calls 33 da.kind da.cls da.sup Aa ca da.vars da.sel da.src true W (Kd.C_below hCa hW) hca (by rw [← hsav]; exact small_ok 33 da (by decide)))
  have hsb : Hid (∀ W, Below w.heap.size w W → Calls Tryd.prog 15 #[.agg #[.int .i64 db.kind, .string db.cls, .string db.sup, .slice Ab db.vars.length cb, .string db.sel, .string db.src]] W fun e w' => e = .returned (.bool true) ∧ Below W.heap.size W w') := Lib.hid (fun W hW => monticuleref07_Small.calls 33 db.kind db.cls db.sup Ab cb db.vars db.sel db.src true W (Kd.C_below hCb hW) hcb (by rw [← hsbv]; exact small_ok 33 db (by decide)))
  have hbd : ∀ x ∈ l, Bd (dv x) := fun x hx => small_bd (by have h := hfv; unfold fewB at h; rw [Bool.and_eq_true, List.all_eq_true] at h; exact h.2 x hx)
  have hl10 : l.length ≤ 10 := by have h := hfv; unfold fewB at h; rw [Bool.and_eq_true, decide_eq_true_eq] at h; exact h.1
  have hnew : Hid (∀ W, Below w.heap.size w W → Calls Tryd.prog 16 #[.slice A0 l.length c0] W (fun e w' => ∃ g b, e = .returned (.tuple #[.pointer (some ⟨g, 0, none⟩), .int .i64 0]) ∧ w'.heap[g]? = some (.cells #[.map (some b)] 69 (0, 0)) ∧ MapAt w' b s.1 s.2 ∧ Below W.heap.size W w')) := Lib.hid (fun W hW => (by have := new_calls W A0 c0 l (Kd.C_below hC0 hW) hbd (by omega); rw [hres] at this; exact this))
  have hrta : Hid (∀ W, Below w.heap.size w W → Calls Tryd.prog 17 #[.agg #[.int .i64 da.kind, .string da.cls, .string da.sup, .slice Aa da.vars.length ca, .string da.sel, .string da.src]] W fun e w' => e = .returned (.bool true) ∧ Below W.heap.size W w') := Lib.hid (fun W hW => monticuleref07_Right.calls (2 * da.vars.length + 62) da.kind da.cls da.sup Aa ca da.vars da.sel da.src true W (Kd.C_below hCa hW) hca (by rw [← hra]; exact rright_ok (2 * da.vars.length + 62) da hCa.2.1 (small_bd hsav).sel (by omega)))
  have hrtb : Hid (∀ W, Below w.heap.size w W → Calls Tryd.prog 17 #[.agg #[.int .i64 db.kind, .string db.cls, .string db.sup, .slice Ab db.vars.length cb, .string db.sel, .string db.src]] W fun e w' => e = .returned (.bool true) ∧ Below W.heap.size W w') := Lib.hid (fun W hW => monticuleref07_Right.calls (2 * db.vars.length + 62) db.kind db.cls db.sup Ab cb db.vars db.sel db.src true W (Kd.C_below hCb hW) hcb (by rw [← hrb]; exact rright_ok (2 * db.vars.length + 62) db hCb.2.1 (small_bd hsbv).sel (by omega)))
  have hkya : Hid (∀ W, Below w.heap.size w W → Calls Tryd.prog 18 #[.agg #[.int .i64 da.kind, .string da.cls, .string da.sup, .slice Aa da.vars.length ca, .string da.sel, .string da.src]] W fun e w' => e = .returned (.string (keyD da)) ∧ Below W.heap.size W w') := Lib.hid (fun W hW => monticuleref07_Key.calls (2 * da.vars.length + 62) da.kind da.cls da.sup Aa ca da.vars da.sel da.src (keyD da) W (Kd.C_below hCa hW) hca (rkey_ok (2 * da.vars.length + 62) da hCa.2.1 (small_bd hsav).sel (by have := (small_bd hsav).cls; omega) (by omega)))
  have hkyb : Hid (∀ W, Below w.heap.size w W → Calls Tryd.prog 18 #[.agg #[.int .i64 db.kind, .string db.cls, .string db.sup, .slice Ab db.vars.length cb, .string db.sel, .string db.src]] W fun e w' => e = .returned (.string (keyD db)) ∧ Below W.heap.size W w') := Lib.hid (fun W hW => monticuleref07_Key.calls (2 * db.vars.length + 62) db.kind db.cls db.sup Ab cb db.vars db.sel db.src (keyD db) W (Kd.C_below hCb hW) hcb (rkey_ok (2 * db.vars.length + 62) db hCb.2.1 (small_bd hsbv).sel (by have := (small_bd hsbv).cls; omega) (by omega)))
  obtain ⟨xa, hxa⟩ : ∃ xa : ChgV, xa = ⟨false, da, keya⟩ := ⟨_, rfl⟩
  obtain ⟨xb, hxb⟩ : ∃ xb : ChgV, xb = ⟨false, db, keyb⟩ := ⟨_, rfl⟩
  have hcha : Hid (∀ W p m n F, Below w.heap.size w W → SnapM W p m → SrcMap W m n F → n < 500 → Calls Tryd.prog 19 #[.pointer p, .agg #[.bool false, .int .i64 da.kind, .string da.cls, .string da.sup, .slice Aa da.vars.length ca, .string da.sel, .string da.src, .string keya]] W (ChgPost W (chgS (n, F) xa))) := Lib.hid (fun W p m n F hW h1 h2 h3 => by subst hxa; exact changed_calls W p m n F ⟨false, da, keya⟩ Aa ca h1 h2 (Kd.C_below hCa hW) hca (small_bd hsav) (.inr hra) (by unfold maxLen; show keya.size ≤ _; omega) h3)
  have hchb : Hid (∀ W p m n F, Below w.heap.size w W → SnapM W p m → SrcMap W m n F → n < 500 → Calls Tryd.prog 19 #[.pointer p, .agg #[.bool false, .int .i64 db.kind, .string db.cls, .string db.sup, .slice Ab db.vars.length cb, .string db.sel, .string db.src, .string keyb]] W (ChgPost W (chgS (n, F) xb))) := Lib.hid (fun W p m n F hW h1 h2 h3 => by subst hxb; exact changed_calls W p m n F ⟨false, db, keyb⟩ Ab cb h1 h2 (Kd.C_below hCb hW) hcb (small_bd hsbv) (.inr hrb) (by unfold maxLen; show keyb.size ≤ _; omega) h3)
  have HSN := Lib.hid (show s.1 ≤ 10 by have h := newGo_count _ _ _ hres; rw [h, List.length_map]; show 0 + _ ≤ _; omega)
  have HXA := Lib.hid hxa
  have HXB := Lib.hid hxb
  clear hxa hxb
  have tok1 : True := trivial
  clear hC0 hc0 hCa hCb hca hcb hfv hsav hsbv hbd hl10 hres hra hrb
  go_enter Tryd.func4, Tryd.ntmps4
  go_wp2_with (first
    | (go_at_call 13; have _t := tok1; refine (snap_awake _).mono ?_; rintro e0 w0 ⟨rfl, hb0⟩; have HB0 := Lib.hid (Fr.below_two w _ _ hb0); have HPa0 := Lib.hid ((hb0.block w.heap.size (by rw [World.size_alloc, World.size_alloc]; omega)).trans (blk_alloc (heap_alloc_new w (.cells #[.bool false, .int .i64 da.kind, .string da.cls, .string da.sup, .slice Aa da.vars.length ca, .string da.sel, .string da.src, .string keya] 43)) _)); have HPb0 := Lib.hid ((hb0.block (w.heap.size + 1) (by rw [World.size_alloc, World.size_alloc]; omega)).trans (alloc_second w _ (.cells #[.bool false, .int .i64 db.kind, .string db.cls, .string db.sup, .slice Ab db.vars.length cb, .string db.sel, .string db.src, .string keyb] 43))); have qa0 := fun i => blk_cell HPa0.out i; have qb0 := fun i => blk_cell HPb0.out i; clear hb0 tok1 _t)
    | (go_at_call 14; refine (hfew.out _ HB0.out).mono ?_; rintro e1 w1 ⟨rfl, hb1⟩; have HB1 := Lib.hid (below_then HB0.out HB0.out.size hb1); have HPa1 := Lib.hid ((hb1.block _ (blk_lt HPa0.out)).trans HPa0.out); have HPb1 := Lib.hid ((hb1.block _ (blk_lt HPb0.out)).trans HPb0.out); have qa1 := fun i => blk_cell HPa1.out i; have qb1 := fun i => blk_cell HPb1.out i; clear qa0 qb0; clear hb1 hfew)
    | (go_at_call 15; refine (hsa.out _ HB1.out).mono ?_; rintro e2 w2 ⟨rfl, hb2⟩; have HB2 := Lib.hid (below_then HB1.out HB1.out.size hb2); have HPa2 := Lib.hid ((hb2.block _ (blk_lt HPa1.out)).trans HPa1.out); have HPb2 := Lib.hid ((hb2.block _ (blk_lt HPb1.out)).trans HPb1.out); have qa2 := fun i => blk_cell HPa2.out i; have qb2 := fun i => blk_cell HPb2.out i; clear qa1 qb1; clear hb2 hsa)
    | (go_at_call 15; refine (hsb.out _ HB2.out).mono ?_; rintro e3 w3 ⟨rfl, hb3⟩; have HB3 := Lib.hid (below_then HB2.out HB2.out.size hb3); have HPa3 := Lib.hid ((hb3.block _ (blk_lt HPa2.out)).trans HPa2.out); have HPb3 := Lib.hid ((hb3.block _ (blk_lt HPb2.out)).trans HPb2.out); have qa3 := fun i => blk_cell HPa3.out i; have qb3 := fun i => blk_cell HPb3.out i; clear qa2 qb2; clear hb3 hsb)
    | (go_at_call 16; refine (hnew.out _ HB3.out).mono ?_; rintro e4 w4 ⟨g, bm, rfl, hg4, hm4, hb4⟩; have HB4 := Lib.hid (below_then HB3.out HB3.out.size hb4); have HG4 := Lib.hid hg4; have HM4 := Lib.hid hm4; have HPa4 := Lib.hid ((hb4.block _ (blk_lt HPa3.out)).trans HPa3.out); have HPb4 := Lib.hid ((hb4.block _ (blk_lt HPb3.out)).trans HPb3.out); have qa4 := fun i => blk_cell HPa4.out i; have qb4 := fun i => blk_cell HPb4.out i; clear qa3 qb3; clear hb4 hnew hg4 hm4)
    | (go_at_call 17; refine (hrta.out _ HB4.out).mono ?_; rintro e5 w5 ⟨rfl, hb5⟩; have HB5 := Lib.hid (below_then HB4.out HB4.out.size hb5); have HBN5 := Lib.hid (hb5); have HPa5 := Lib.hid ((hb5.block _ (blk_lt HPa4.out)).trans HPa4.out); have HPb5 := Lib.hid ((hb5.block _ (blk_lt HPb4.out)).trans HPb4.out); have qa5 := fun i => blk_cell HPa5.out i; have qb5 := fun i => blk_cell HPb5.out i; clear qa4 qb4; clear hb5 hrta)
    | (go_at_call 17; refine (hrtb.out _ HB5.out).mono ?_; rintro e6 w6 ⟨rfl, hb6⟩; have HB6 := Lib.hid (below_then HB5.out HB5.out.size hb6); have HBN6 := Lib.hid (below_then HBN5.out HBN5.out.size hb6); have HPa6 := Lib.hid ((hb6.block _ (blk_lt HPa5.out)).trans HPa5.out); have HPb6 := Lib.hid ((hb6.block _ (blk_lt HPb5.out)).trans HPb5.out); have qa6 := fun i => blk_cell HPa6.out i; have qb6 := fun i => blk_cell HPb6.out i; clear qa5 qb5; clear hb6 hrtb))
  have HB20 := Lib.hid (below_drew HB6.out)
  have HPa20 := Lib.hid ((Fr.drew (Fr.refl (fun _ => False) w6)).heap HPa6.out (fun h => h))
  have HPb20 := Lib.hid ((Fr.drew (Fr.refl (fun _ => False) w6)).heap HPb6.out (fun h => h))
  have HSr : Hid (w6.drew.cell? ⟨w.heap.size, 7, none⟩ = some (.string keya) ∧ w6.drew.cell? ⟨w.heap.size + 1, 7, none⟩ = some (.string keyb)) := Lib.hid ⟨blk_cell HPa20.out 7, blk_cell HPb20.out 7⟩
  go_region_held3 (fun W => W.cell? ⟨w.heap.size, 7, none⟩ = some (.string keya) ∧ W.cell? ⟨w.heap.size + 1, 7, none⟩ = some (.string keyb)) (exact HSr.out) (fail)
  clear qa6 qb6 HSr
  have HMM : Hid (Below w4.heap.size w4 w6.drew) := Lib.hid (below_drew HBN6.out)
  generalize w6.drew = w20 at *
  have qa20 := fun i => blk_cell HPa20.out i
  have qb20 := fun i => blk_cell HPb20.out i
  go_wp2_with (first
    | (go_at_call 18; refine (hkya.out _ HB20.out).mono ?_; rintro e21 w21 ⟨rfl, hb21⟩; have HB21 := Lib.hid (below_then HB20.out HB20.out.size hb21); have HBN21 := Lib.hid (below_then HMM.out HMM.out.size hb21); have HPa21 := Lib.hid ((hb21.block _ (blk_lt HPa20.out)).trans HPa20.out); have HPb21 := Lib.hid ((hb21.block _ (blk_lt HPb20.out)).trans HPb20.out); have qa21 := fun i => blk_cell HPa21.out i; have qb21 := fun i => blk_cell HPb21.out i; clear qa20 qb20; clear hb21 hkya)
    | (go_at_call 18; refine (hkyb.out _ HB21.out).mono ?_; rintro e22 w22 ⟨rfl, hb22⟩; have HB22 := Lib.hid (below_then HB21.out HB21.out.size hb22); have HBN22 := Lib.hid (below_then HBN21.out HBN21.out.size hb22); have HPa22 := Lib.hid ((hb22.block _ (blk_lt HPa21.out)).trans HPa21.out); have HPb22 := Lib.hid ((hb22.block _ (blk_lt HPb21.out)).trans HPb21.out); have qa22 := fun i => blk_cell HPa22.out i; have qb22 := fun i => blk_cell HPb22.out i; clear qa21 qb21; clear hb22 hkyb))
  all_goals try (go_ret; exact ⟨rfl, (by first | exact HB22.out | exact HB21.out | exact HB20.out)⟩)
  have HBd := Lib.hid (below_drew HB22.out)
  have HNd := Lib.hid (below_drew HBN22.out)
  have HPad := Lib.hid ((Fr.drew (Fr.refl (fun _ => False) w22)).heap HPa22.out (fun h => h))
  have HPbd := Lib.hid ((Fr.drew (Fr.refl (fun _ => False) w22)).heap HPb22.out (fun h => h))
  have HSd := Lib.hid (ord_s HPad.out HPbd.out)
  have hne : chgK xa ≠ chgK xb := by
    rw [HXA.out, HXB.out]
    have h : ((keyD da).toList == (keyD db).toList) = false := by assumption
    rw [tl_beq, decide_eq_false_iff_not] at h
    exact h
  have HE := Lib.hid (chg_comm s xa xb hne)
  clear hne
  have tokc1 : True := trivial
  have tokc2 : True := trivial
  have tokc3 : True := trivial
  have tokc4 : True := trivial
  clear qa22 qb22
  go_region_held3 (fun W => W.cell? ⟨w.heap.size, 0, none⟩ = some (.bool false) ∧ W.cell? ⟨w.heap.size, 1, none⟩ = some (.int .i64 da.kind) ∧ W.cell? ⟨w.heap.size, 2, none⟩ = some (.string da.cls) ∧ W.cell? ⟨w.heap.size, 3, none⟩ = some (.string da.sup) ∧ W.cell? ⟨w.heap.size, 4, none⟩ = some (.slice Aa da.vars.length ca) ∧ W.cell? ⟨w.heap.size, 5, none⟩ = some (.string da.sel) ∧ W.cell? ⟨w.heap.size, 6, none⟩ = some (.string da.src) ∧ W.cell? ⟨w.heap.size, 7, none⟩ = some (.string keya) ∧ W.cell? ⟨w.heap.size + 1, 0, none⟩ = some (.bool false) ∧ W.cell? ⟨w.heap.size + 1, 1, none⟩ = some (.int .i64 db.kind) ∧ W.cell? ⟨w.heap.size + 1, 2, none⟩ = some (.string db.cls) ∧ W.cell? ⟨w.heap.size + 1, 3, none⟩ = some (.string db.sup) ∧ W.cell? ⟨w.heap.size + 1, 4, none⟩ = some (.slice Ab db.vars.length cb) ∧ W.cell? ⟨w.heap.size + 1, 5, none⟩ = some (.string db.sel) ∧ W.cell? ⟨w.heap.size + 1, 6, none⟩ = some (.string db.src) ∧ W.cell? ⟨w.heap.size + 1, 7, none⟩ = some (.string keyb)) (first | exact HS34.out | exact HS33.out | exact HS32.out | exact HS31.out | exact HSd.out)
    (first
    | (go_at_call 19; have _t := tokc1; refine (hcha.out _ (some ⟨g, 0, none⟩) (some bm) s.1 s.2 HBd.out (.inr ⟨g, rfl, (HNd.out.block _ (blk_lt HG4.out)).trans HG4.out⟩) (HM4.out.below HNd.out) (by have h1 := HSN.out; have h2 := chg_count s xa; have h3 := chg_count s xb; omega)).mono ?_; rintro e31 w31 ⟨g31, b31, rfl, hg31, hm31, hb31⟩; have HG31 := Lib.hid hg31; have HM31 := Lib.hid hm31; have HC31 := Lib.hid hb31; have HB31 := Lib.hid (below_then HBd.out HBd.out.size hb31); have HPa31 := Lib.hid ((hb31.block _ (blk_lt HPad.out)).trans HPad.out); have HPb31 := Lib.hid ((hb31.block _ (blk_lt HPbd.out)).trans HPbd.out); have HS31 := Lib.hid (ord_s HPa31.out HPb31.out); clear hg31 hm31 hb31 tokc1 _t)
    | (go_at_call 19; have _t := tokc2; refine (hchb.out _ (some ⟨g31, 0, none⟩) (some b31) (chgS s xa).1 (chgS s xa).2 HB31.out (.inr ⟨g31, rfl, HG31.out⟩) HM31.out (by have h1 := HSN.out; have h2 := chg_count s xa; have h3 := chg_count s xb; omega)).mono ?_; rintro e32 w32 ⟨g32, b32, rfl, hg32, hm32, hb32⟩; have HG32 := Lib.hid hg32; have HM32 := Lib.hid hm32; have HC32 := Lib.hid hb32; have HB32 := Lib.hid (below_then HB31.out HB31.out.size hb32); have HPa32 := Lib.hid ((hb32.block _ (blk_lt HPa31.out)).trans HPa31.out); have HPb32 := Lib.hid ((hb32.block _ (blk_lt HPb31.out)).trans HPb31.out); have HS32 := Lib.hid (ord_s HPa32.out HPb32.out); clear hg32 hm32 hb32 tokc2 _t)
    | (go_at_call 19; have _t := tokc3; refine (hchb.out _ (some ⟨g, 0, none⟩) (some bm) s.1 s.2 HB32.out (.inr ⟨g, rfl, ((below_then (below_then HNd.out HNd.out.size HC31.out) (by have := HNd.out.size; have := HC31.out.size; omega) HC32.out).block _ (blk_lt HG4.out)).trans HG4.out⟩) (HM4.out.below (below_then (below_then HNd.out HNd.out.size HC31.out) (by have := HNd.out.size; have := HC31.out.size; omega) HC32.out)) (by have h1 := HSN.out; have h2 := chg_count s xa; have h3 := chg_count s xb; omega)).mono ?_; rintro e33 w33 ⟨g33, b33, rfl, hg33, hm33, hb33⟩; have HG33 := Lib.hid hg33; have HM33 := Lib.hid hm33; have HC33 := Lib.hid hb33; have HB33 := Lib.hid (below_then HB32.out HB32.out.size hb33); have HPa33 := Lib.hid ((hb33.block _ (blk_lt HPa32.out)).trans HPa32.out); have HPb33 := Lib.hid ((hb33.block _ (blk_lt HPb32.out)).trans HPb32.out); have HS33 := Lib.hid (ord_s HPa33.out HPb33.out); clear hg33 hm33 hb33 tokc3 _t)
    | (go_at_call 19; have _t := tokc4; refine (hcha.out _ (some ⟨g33, 0, none⟩) (some b33) (chgS s xb).1 (chgS s xb).2 HB33.out (.inr ⟨g33, rfl, HG33.out⟩) HM33.out (by have h1 := HSN.out; have h2 := chg_count s xa; have h3 := chg_count s xb; omega)).mono ?_; rintro e34 w34 ⟨g34, b34, rfl, hg34, hm34, hb34⟩; have HG34 := Lib.hid hg34; have HM34 := Lib.hid hm34; have HC34 := Lib.hid hb34; have HB34 := Lib.hid (below_then HB33.out HB33.out.size hb34); have HPa34 := Lib.hid ((hb34.block _ (blk_lt HPa33.out)).trans HPa33.out); have HPb34 := Lib.hid ((hb34.block _ (blk_lt HPb33.out)).trans HPb33.out); have HS34 := Lib.hid (ord_s HPa34.out HPb34.out); clear hg34 hm34 hb34 tokc4 _t))
  have hbl := below_then HC33.out HC33.out.size HC34.out
  have h1 := HM32.out.below hbl
  have h2 := HM34.out
  have he : (chgS (chgS s xb) xa).2 = (chgS (chgS s xa) xb).2 := HE.out.symm
  rw [he] at h2
  have hn := MapAt.size_eq h1 h2
  rw [← hn] at h2
  have hsame := Lib.hid (same_calls w34 (some ⟨g32, 0, none⟩) (some ⟨g34, 0, none⟩) b32 b34 _ _ (.inr ⟨g32, rfl, (hbl.block _ (blk_lt HG32.out)).trans HG32.out⟩) (.inr ⟨g34, rfl, HG34.out⟩) h1 h2)
  clear h1 h2 he hn hbl hcha hchb
  go_wp2_with (go_at_call 20; refine hsame.out.mono ?_; clear hsame; rintro e35 w35 ⟨rfl, hb35⟩; have HB35 := Lib.hid (below_then HB34.out HB34.out.size hb35); clear hb35)
  go_ret
  exact ⟨rfl, HB35.out⟩

theorem orders_walk (w : World) (A0 : Option Addr) (c0 : Nat) (l : List S31) (a b : ChgV) (Aa Ab : Option Addr) (ca cb : Nat) (hC0 : Kd.C k31 w A0 l.length l) (hc0 : l.length ≤ c0) (hCa : Kd.string.C w Aa a.d.vars.length a.d.vars) (hca : a.d.vars.length ≤ ca) (hCb : Kd.string.C w Ab b.d.vars.length b.d.vars) (hcb : b.d.vars.length ≤ cb) :
    Calls Tryd.prog 4 #[.slice A0 l.length c0, .agg #[.bool a.drop, .int .i64 a.d.kind, .string a.d.cls, .string a.d.sup, .slice Aa a.d.vars.length ca, .string a.d.sel, .string a.d.src, .string a.key], .agg #[.bool b.drop, .int .i64 b.d.kind, .string b.d.cls, .string b.d.sup, .slice Ab b.d.vars.length cb, .string b.d.sel, .string b.d.src, .string b.key]] w fun e w' => e = .returned (.bool true) ∧ Below w.heap.size w w' := by
  cases hfv : fewB l
  · exact orders_b1 w A0 c0 l a b Aa Ab ca cb hC0 hc0 hCa hca hCb hcb hfv
  cases hsav : smallD a.d
  · exact orders_b2 w A0 c0 l a b Aa Ab ca cb hC0 hc0 hCa hca hCb hcb hfv hsav
  cases hsbv : smallD b.d
  · exact orders_b3 w A0 c0 l a b Aa Ab ca cb hC0 hc0 hCa hca hCb hcb hfv hsav hsbv
  by_cases hka : (700 : Int) < (a.key.size : Int)
  · exact orders_b4 w A0 c0 l a b Aa Ab ca cb hC0 hc0 hCa hca hCb hcb hfv hsav hsbv hka
  by_cases hkb : (700 : Int) < (b.key.size : Int)
  · exact orders_b5 w A0 c0 l a b Aa Ab ca cb hC0 hc0 hCa hca hCb hcb hfv hsav hsbv hka hkb
  cases hres : newGo (l.map dv) snap0 with
  | inl c => exact orders_err w A0 c0 l a b Aa Ab ca cb hC0 hc0 hCa hca hCb hcb hfv hsav hsbv hka hkb c hres
  | inr s =>
    obtain ⟨dra, da, keya⟩ := a
    obtain ⟨drb, db, keyb⟩ := b
    simp only at hCa hca hCb hcb hsav hsbv hka hkb ⊢
    cases dra <;> cases drb
    · cases hra : rightD da
      · exact orders_wa_false w A0 c0 l da db keya keyb Aa Ab ca cb hC0 hc0 hCa hca hCb hcb hfv hsav hsbv hka hkb s hres hra
      · cases hrb : rightD db
        · exact orders_wb2 w A0 c0 l da db keya keyb Aa Ab ca cb hC0 hc0 hCa hca hCb hcb hfv hsav hsbv hka hkb s hres hra hrb
        · exact orders_good_false_false w A0 c0 l da db keya keyb Aa Ab ca cb hC0 hc0 hCa hca hCb hcb hfv hsav hsbv hka hkb s hres hra hrb
    · cases hra : rightD da
      · exact orders_wa_true w A0 c0 l da db keya keyb Aa Ab ca cb hC0 hc0 hCa hca hCb hcb hfv hsav hsbv hka hkb s hres hra
      · exact orders_good_false_true w A0 c0 l da db keya keyb Aa Ab ca cb hC0 hc0 hCa hca hCb hcb hfv hsav hsbv hka hkb s hres hra
    · cases hrb : rightD db
      · exact orders_wb1 w A0 c0 l da db keya keyb Aa Ab ca cb hC0 hc0 hCa hca hCb hcb hfv hsav hsbv hka hkb s hres hrb
      · exact orders_good_true_false w A0 c0 l da db keya keyb Aa Ab ca cb hC0 hc0 hCa hca hCb hcb hfv hsav hsbv hka hkb s hres hrb
    · exact orders_good_true_true w A0 c0 l da db keya keyb Aa Ab ca cb hC0 hc0 hCa hca hCb hcb hfv hsav hsbv hka hkb s hres
end Go.Proofs.YtoiaancehakiiaaDoor.Q
/- The law SnapOrders: whatever definitions and changes come in, the call returns true and they stay (Rows.SnapOrdersSaid), and its tied card (Rows.SnapOrdersCardSaid). -/
namespace Go.Proofs.YtoiaancehakiiaaDoor.Q
open Go.ChangeShapes Go.WideShapes Go.ChangeAt Go.RowKit Go.Proofs.YtoiaancehakiiaaDoorW.PrintWords

def zeroChange : Value := .agg #[.bool false, .int .i64 0, .string ⟨#[]⟩, .string ⟨#[]⟩, .slice none 0 0, .string ⟨#[]⟩, .string ⟨#[]⟩, .string ⟨#[]⟩]
def zeroChangeD {H : Type} : DataW H := .agg [.lit (.bool false), .agg [.lit (.int .i64 0), .lit (.string []), .lit (.string []), .nil, .lit (.string []), .lit (.string [])], .lit (.string [])]
theorem reads_snapOrders (os : Os) {H : Type} (enc : TypeId × Value → H) : ∃ places, DataW.whole enc Tryd.prog ((laidWorld os).forCall (fun _ _ => 0) ⟨#[], #[.slice none 0 0, zeroChange, zeroChange], []⟩).memory Tryd.f4.params.toList Rows.snapOrdersSpec.vars false #[Value.slice none 0 0, zeroChange, zeroChange].toList 9 = some ([.nil, zeroChangeD, zeroChangeD], [], places) :=
  ⟨[], by kernel_rfl⟩

set_option maxRecDepth 100000 in
theorem contract_snapOrders (H : Type) (enc : TypeId × Value → H) (W : World) (base : Nat) (args : Array Value) (ds gs : List (DataW H)) (before : List MemPlace)
    (hval0 : ∀ (j : Nat) t v, Tryd.f4.params[j]? = some t → args[j]? = some v → Value.okWide Tryd.prog W .any base t v)
    (hW : DataW.Whole enc Tryd.prog Tryd.f4.params.toList Rows.snapOrdersSpec.vars false W args.toList ds gs before) :
    Calls Tryd.prog 4 args W fun e W' => ∃ v, e = .returned v ∧ Rows.snapOrdersSpec.post enc Tryd.prog Tryd.f4 false true false false W args v W' := by
  have hval : ∀ (j : Nat) t v, Tryd.f4.params[j]? = some t → args[j]? = some v → Value.okWide Tryd.prog W .any base t v := hval0
  have hW' := hW
  obtain ⟨p, q, hA0, hV, rfl, hfz, hnd⟩ := hW
  have hA : DataW.TrodAll enc Tryd.prog W 0 (fun _ => true) true Tryd.f4.params.toList args.toList ds p := hA0
  rw [Tryd.params4] at hA hval
  obtain ⟨v0, vs0, d0, ds0, p0, q0, hargs, rfl, rfl, h0, r0⟩ := trodAll_cons hA
  obtain ⟨v1, vs1, d1, ds1, p1, q1, rfl, rfl, rfl, h1, r1⟩ := trodAll_cons r0
  obtain ⟨v2, vs2, d2, ds2, p2, q2, rfl, rfl, rfl, h2, r2⟩ := trodAll_cons r1
  obtain ⟨rfl, rfl, rfl⟩ := trodAll_nil r2
  obtain rfl : args = #[v0, v1, v2] := by cases args; simp_all
  obtain ⟨rfl, rfl⟩ := trodVars_none hV
  obtain ⟨a0, len0, cap0, rfl⟩ := okWide_slice Tryd.underlying41 (hval 0 41 v0 rfl rfl)
  have k0 := h0
  have k1 := h1
  have k2 := h2
  have lt0 : ∀ x ∈ p0, x.block < W.heap.size := by obtain ⟨m, hm⟩ := k0; exact DataW.trod_lt m _ _ _ hm
  have lt1 : ∀ x ∈ p1, x.block < W.heap.size := by obtain ⟨m, hm⟩ := k1; exact DataW.trod_lt m _ _ _ hm
  have lt2 : ∀ x ∈ p2, x.block < W.heap.size := by obtain ⟨m, hm⟩ := k2; exact DataW.trod_lt m _ _ _ hm
  obtain ⟨l, A0, c0, e0, hc0, hC0⟩ : ∃ (l : List S31) (A : Option Addr) (c : Nat), Value.slice a0 len0 cap0 = .slice A l.length c ∧ l.length ≤ c ∧ Kd.C k31 W A l.length l := by
    obtain ⟨fuel, hf⟩ := h0
    obtain ⟨l, A, c, e, hc, hC⟩ := open_defs hf
    exact ⟨l, A, c, by simpa [Value.cells] using e, hc, hC⟩
  rw [e0] at k0 hW' ⊢
  clear e0
  obtain ⟨a, Aa, ca, rfl, hca, hCa⟩ := open_change (hval 1 43 v1 rfl rfl) h1
  obtain ⟨b, Ab, cb, rfl, hcb, hCb⟩ := open_change (hval 2 43 v2 rfl rfl) h2
  clear hA0 hval0
  refine (orders_walk W A0 c0 l a b Aa Ab ca cb hC0 hc0 hCa hca hCb hcb).mono fun e W' ⟨he, bel⟩ => ?_
  subst he
  exact ⟨_, rfl, _, _, _, [], _, [], hW', trodAll_mk1 (shut_bool Tryd.underlying4 _), (trodAll_cons_mk (Below.trod laidOut (by kernel_rfl) (of_decide_eq_true (by kernel_rfl)) k0 bel lt0) (trodAll_cons_mk (Below.trod laidOut (by kernel_rfl) (of_decide_eq_true (by kernel_rfl)) k1 bel lt1) (trodAll_cons_mk (Below.trod laidOut (by kernel_rfl) (of_decide_eq_true (by kernel_rfl)) k2 bel lt2) trodAll_mk0))), rfl, bel.frame _, fun h => by cases h⟩

set_option maxRecDepth 100000 in
theorem lifted_snapOrders (os : Os) (started : os.Started) (H : Type) (enc : TypeId × Value → H) (F : Stop.Interp) :
    ReturnsInHanded {} Tryd.checked os 4 .any ((OpenSpec.ofChange Rows.snapOrdersSpec).preRow enc Tryd.prog Tryd.f4 Rows.snapOrdersRow.domain false Rows.snapOrdersRow.laid) (((OpenSpec.ofChange Rows.snapOrdersSpec).at F).post enc Tryd.prog Tryd.f4 false true false false) := by
  obtain ⟨places, hx⟩ := reads_snapOrders os enc
  refine returnsInHanded_of_row (C := Tryd.checked) (s := OpenSpec.ofChange Rows.snapOrdersSpec) own started (by kernel_rfl) Tryd.func4
    (witness_row_at (enc := enc) (C := Tryd.checked) false (laidWorld os) #[.slice none 0 0, zeroChange, zeroChange] rfl (by kernel_rfl) (by kernel_rfl) (by kernel_rfl)
      (OpenSpec.preRow_of_cond 9 hx (by kernel_rfl) (fun k hk => by cases hk) (by kernel_rfl) (laid_met os _))) ?_
  intro W base args ds gs before hval hW _ _ _ _ _ _
  exact contract_snapOrders H enc W base args ds gs before hval hW

theorem said_snapOrders : Rows.SnapOrdersSaid :=
  OpenClaim.holds_of_cond 4 Tryd.f4 rfl rfl rfl rfl rfl rfl rfl ⟨rfl, rfl, rfl, rfl, rfl⟩ rfl rfl rfl rfl rfl (by kernel_rfl) Tryd.func4 (by kernel_rfl)
    (of_decide_eq_true (by kernel_rfl)) (by unfold Func.isWrapper; first | (rw [if_pos (by decide +kernel)]; kernel_rfl) | (rw [if_neg (by decide +kernel)]; exact ⟨rfl, rfl⟩))
    (fun os started H enc _ F => by rw [OpenClaim.pre_eq_preRow]; exact lifted_snapOrders os started H enc F)

theorem plain_snapOrders (f : FuncId) (fn : Func) (hf : Tryd.pinned.checked.prog.funcNamed "monticule/monticulelaw08.SnapOrders" = some f) (hfn : Tryd.pinned.checked.prog.funcs[f]? = some fn) :
    false = Tryd.pinned.checked.prog.looks [] ∧ ∀ (j : Nat) t, fn.params[j]? = some t → Tryd.pinned.checked.prog.wantsStandIn t = false := by
  obtain rfl : f = 4 := Option.some.inj ((show Tryd.prog.funcNamed "monticule/monticulelaw08.SnapOrders" = some 4 by kernel_rfl).symm.trans hf) |>.symm
  obtain rfl : fn = Tryd.f4 := (Option.some.inj (Tryd.func4.symm.trans hfn)).symm
  refine ⟨by kernel_rfl, fun j t ht => ?_⟩
  rw [Tryd.params4] at ht
  have hm : t ∈ #[41, 43, 43] := Array.mem_of_getElem? ht
  have h2 : t = 41 ∨ t = 43 := by simpa using hm
  rcases h2 with rfl | rfl
  · exact (show Tryd.prog.wantsStandIn 41 = false by kernel_rfl)
  · exact (show Tryd.prog.wantsStandIn 43 = false by kernel_rfl)

/-- The law, as the card says it. -/
theorem snapOrders_card : Rows.SnapOrdersCardSaid :=
  Claim7.holds_tied_plain_at .later [] _ _ _ _ said_snapOrders (fun _ h => by cases h) (by kernel_rfl) (fun _ h => by cases h) snapOrders_row_tie rfl ⟨rfl, rfl⟩ (by kernel_rfl) rfl plain_snapOrders (by kernel_rfl)
end Go.Proofs.YtoiaancehakiiaaDoor.Q
