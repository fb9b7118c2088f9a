/- A map as an association list (MapL), and a range over it (RangeL): lookups, stores, deletes, len, range, said once for all walks of this seat. Memory in pages, as lists: no program in sight (the document's chapter 13 as Lean functions). How memory in pages lies in the program's memory (SRep), and the small functions: base, may, each. Masks of few bits. held, allowed: the errors of spans. No condition. -/
import Derived.Test.YtaoillfofiehpaaSigT
import Derived.Laws.BitsAllLaws
import Derived.Test.YtaoillfofiehpaaProg
set_option linter.unusedVariables false
set_option linter.unusedSimpArgs false
namespace Go.Dm
open Go Go.RowKit Go.Maps Go.ChangeMaps

/-- an element reads as itself -/
def heldE (v : Value) : Option (DataW Value × List MemPlace) := some (.held v, [])
def hd (p : Lit × Value) : Lit × DataW Value := (p.1, .held p.2)
def Apart (L : List (Lit × Value)) : Prop := L.Pairwise (fun p q => p.1 ≠ q.1)
def findL (L : List (Lit × Value)) (k : Lit) : Option Value := (L.find? (fun p => p.1.sameKey k)).map (·.2)
def eraseL (L : List (Lit × Value)) (k : Lit) : List (Lit × Value) := L.filter (fun p => !p.1.sameKey k)

theorem sameKey_true {a b : Lit} (hb : WideAt.IsKeyLit b) : a.sameKey b = true ↔ a = b :=
  ⟨WideAt.sameKey_eq, fun h => by subst h; exact WideAt.sameKey_self hb⟩

theorem find_some {α : Type} {L : List (Lit × α)} (hp : L.Pairwise (fun p q => p.1 ≠ q.1)) {k : Lit} (hk : WideAt.IsKeyLit k) (p : Lit × α) : L.find? (fun p => p.1.sameKey k) = some p ↔ p ∈ L ∧ p.1 = k := by
  induction L with
  | nil => simp
  | cons q r ih =>
    rw [List.pairwise_cons] at hp
    by_cases hq : q.1.sameKey k = true
    · have hqk := (sameKey_true hk).1 hq
      simp only [List.find?_cons, hq]
      constructor
      · intro h; cases h; exact ⟨by simp, hqk⟩
      · rintro ⟨h, e⟩
        rcases List.mem_cons.1 h with rfl | h
        · rfl
        · exact absurd (hqk.trans e.symm) (hp.1 p h)
    · have hq' : q.1.sameKey k = false := by simpa using hq
      simp only [List.find?_cons, hq', ih hp.2]
      constructor
      · rintro ⟨h, e⟩; exact ⟨by simp [h], e⟩
      · rintro ⟨h, e⟩
        rcases List.mem_cons.1 h with rfl | h
        · exact absurd ((sameKey_true hk).2 e) hq
        · exact ⟨h, e⟩

theorem apart_perm {α : Type} {L L' : List (Lit × α)} (h : L.Perm L') (hp : L.Pairwise (fun p q => p.1 ≠ q.1)) : L'.Pairwise (fun p q => p.1 ≠ q.1) :=
  (h.pairwise_iff fun h => Ne.symm h).1 hp

theorem find_perm {α : Type} {L L' : List (Lit × α)} (h : L.Perm L') (hp : L.Pairwise (fun p q => p.1 ≠ q.1)) {k : Lit} (hk : WideAt.IsKeyLit k) : L.find? (fun p => p.1.sameKey k) = L'.find? (fun p => p.1.sameKey k) := by
  apply Option.ext
  intro p
  rw [find_some hp hk, find_some (apart_perm h hp) hk, h.mem_iff]

theorem apart_map {L : List (Lit × Value)} : (L.map hd).Pairwise (fun p q => p.1 ≠ q.1) ↔ Apart L := by
  unfold Apart; rw [List.pairwise_map]; rfl

theorem find_map (L : List (Lit × Value)) (k : Lit) : (L.map hd).find? (fun p => p.1.sameKey k) = (L.find? (fun p => p.1.sameKey k)).map hd := by
  rw [List.find?_map]; rfl

theorem findL_perm {L L' : List (Lit × Value)} (h : L.Perm L') (hp : Apart L) {k : Lit} (hk : WideAt.IsKeyLit k) : findL L k = findL L' k := by unfold findL; rw [find_perm h hp hk]
theorem findL_some {L : List (Lit × Value)} (hp : Apart L) {k : Lit} (hk : WideAt.IsKeyLit k) (v : Value) : findL L k = some v ↔ (k, v) ∈ L := by
  unfold findL
  rw [Option.map_eq_some_iff]
  constructor
  · rintro ⟨p, h, rfl⟩
    obtain ⟨h, e⟩ := (find_some hp hk p).1 h
    rw [← e]; exact h
  · intro h; exact ⟨_, (find_some hp hk _).2 ⟨h, rfl⟩, rfl⟩
theorem apart_erase {L : List (Lit × Value)} (h : Apart L) (k : Lit) : Apart (eraseL L k) := List.Pairwise.filter _ h
theorem eraseL_perm {L L' : List (Lit × Value)} (h : L.Perm L') (k : Lit) : (eraseL L k).Perm (eraseL L' k) := h.filter _
theorem mem_erase {L : List (Lit × Value)} {k : Lit} (hk : WideAt.IsKeyLit k) {p : Lit × Value} : p ∈ eraseL L k ↔ p ∈ L ∧ p.1 ≠ k := by
  unfold eraseL
  rw [List.mem_filter]
  cases h : p.1.sameKey k
  · simp only [Bool.not_false, and_true]
    exact ⟨fun hm => ⟨hm, fun e => by rw [(sameKey_true hk).2 e] at h; cases h⟩, fun h => h.1⟩
  · simp only [Bool.not_true, Bool.false_eq_true, and_false, false_iff]
    exact fun hm => hm.2 ((sameKey_true hk).1 h)
theorem apart_put {L : List (Lit × Value)} (h : Apart L) {k : Lit} (hk : WideAt.IsKeyLit k) (v : Value) : Apart ((k, v) :: eraseL L k) := by
  unfold Apart
  rw [List.pairwise_cons]
  exact ⟨fun p hp => fun e => ((mem_erase hk).1 hp).2 e.symm, apart_erase h k⟩
theorem length_erase_le (L : List (Lit × Value)) (k : Lit) : (eraseL L k).length ≤ L.length := List.length_filter_le _ _

/-- Block b of w is a map (of keys of type k) with just the entries of L. -/
def MapL (P : Program) (k : TypeId) (w : World) (b : Nat) (L : List (Lit × Value)) : Prop :=
  Apart L ∧ ∃ es, es.Perm (L.map hd) ∧ w.ownsMap P k heldE b L.length (.map es)

section
variable {P : Program} {k : TypeId} {w : World} {b : Nat} {L : List (Lit × Value)}

theorem MapL.apart (h : MapL P k w b L) : Apart L := h.1
theorem MapL.perm (h : MapL P k w b L) {L' : List (Lit × Value)} (hp : L.Perm L') : MapL P k w b L' := by
  obtain ⟨ha, es, he, ho⟩ := h
  exact ⟨apart_perm hp ha, es, he.trans (hp.map hd), by rw [← hp.length_eq]; exact ho⟩
theorem MapL.lt (h : MapL P k w b L) : b < w.heap.size := by obtain ⟨_, es, _, ho⟩ := h; exact ho.lt
theorem MapL.obj (h : MapL P k w b L) : ∃ es c, w.heap[b]? = some (.map es c) := by obtain ⟨_, es, _, e, c, hb, _⟩ := h; exact ⟨e, c, hb⟩
theorem MapL.ne_blk (h : MapL P k w b L) {b' : Nat} {cs : Array Value} {t : TypeId} (hb : Blk w b' cs t) : b ≠ b' := by
  rintro rfl
  obtain ⟨es, c, e⟩ := h.obj
  rw [hb] at e; cases e
theorem MapL.same {w' : World} (h : MapL P k w b L) (e : w'.heap[b]? = w.heap[b]?) : MapL P k w' b L := by
  obtain ⟨ha, es, he, e1, c, hb, r⟩ := h
  exact ⟨ha, es, he, e1, c, e.trans hb, r⟩
theorem MapL.keep {A : Nat → Prop} {w' : World} (h : MapL P k w b L) (hk : Keep A w w') (hA : ¬ A b) : MapL P k w' b L := h.same (hk.block b h.lt hA)
theorem MapL.keys (h : MapL P k w b L) (K : Keyed P k) : ∀ p ∈ L, WideAt.IsKeyLit p.1 := by
  obtain ⟨ha, es, he, ho⟩ := h
  obtain ⟨es', e1, _, hk⟩ := ho.entries K
  cases e1
  intro p hp
  exact hk (hd p) (he.mem_iff.2 (List.mem_map_of_mem hp))
theorem MapL.made (P : Program) (k : TypeId) (w : World) : MapL P k (w.alloc (.map #[] 0)) w.heap.size [] :=
  ⟨List.Pairwise.nil, [], List.Perm.refl _, World.ownsMap_made _ _ _ _⟩

theorem keyLit_of {key : Value} {kl : Lit} (K : Keyed P k) (h : keyOf P k key = some kl) : WideAt.IsKeyLit kl := K.key h

theorem MapL.at (h : MapL P k w b L) {kl : Lit} (hk : WideAt.IsKeyLit kl) : ∃ es, w.ownsMap P k heldE b L.length (.map es) ∧ es.Perm (L.map hd) ∧ (∀ z : Value, (DataW.map es).atKey kl (.held z) = .held ((findL L kl).getD z)) ∧ Maps.has (.map es) kl = (findL L kl).isSome := by
  obtain ⟨ha, es, he, ho⟩ := h
  have e1 : es.find? (fun p => p.1.sameKey kl) = (L.find? (fun p => p.1.sameKey kl)).map hd := by
    rw [← find_map]; exact find_perm he (apart_perm he.symm (apart_map.2 ha)) hk
  refine ⟨es, ho, he, fun z => ?_, ?_⟩
  · unfold DataW.atKey findL
    simp only [e1]
    cases L.find? (fun p => p.1.sameKey kl) <;> simp [hd]
  · have e2 : es.any (fun p => p.1.sameKey kl) = (es.find? (fun p => p.1.sameKey kl)).isSome := by
      rw [Bool.eq_iff_iff, List.find?_isSome, List.any_eq_true]
    rw [Maps.has_eq, e2, e1]
    unfold findL
    cases L.find? (fun p => p.1.sameKey kl) <;> simp

/-- m[k] -/
theorem MapL.lookup {t e : TypeId} (h : MapL P k w b L) (K : Keyed P k) (ht : P.underlying t = some (.map k e)) {z : Value} (hz : (zeroValue e).run P w = .ok z w) {key : Value} {kl : Lit} (hkey : keyOf P k key = some kl) :
    (Instr.lookup t (.map (some b)) key false).run P w = .ok ((findL L kl).getD z) w := by
  obtain ⟨es, ho, _, hat, _⟩ := h.at (keyLit_of K hkey)
  obtain ⟨v, ps, hrun, hv⟩ := ho.lookup K ht hz (zd := .held z) (zp := []) rfl hkey
  rw [hat z] at hv
  cases hv
  exact hrun
/-- v, ok := m[k] -/
theorem MapL.lookup_ok {t e : TypeId} (h : MapL P k w b L) (K : Keyed P k) (ht : P.underlying t = some (.map k e)) {z : Value} (hz : (zeroValue e).run P w = .ok z w) {key : Value} {kl : Lit} (hkey : keyOf P k key = some kl) :
    (Instr.lookup t (.map (some b)) key true).run P w = .ok (.tuple #[(findL L kl).getD z, .bool (findL L kl).isSome]) w := by
  obtain ⟨es, ho, _, hat, hhas⟩ := h.at (keyLit_of K hkey)
  obtain ⟨v, ps, hrun, hv⟩ := ho.look_ok K ht hz (zd := .held z) (zp := []) rfl hkey
  rw [hat z] at hv
  cases hv
  rw [← hhas]
  exact hrun
/-- m[k] = v -/
theorem MapL.store {t e : TypeId} (h : MapL P k w b L) (K : Keyed P k) (ht : P.underlying t = some (.map k e)) (hn : L.length < maxLen) {key v : Value} {kl : Lit} (hkey : keyOf P k key = some kl) :
    ∃ w', (Instr.mapUpdate t (.map (some b)) key v).run P w = .ok () w' ∧ MapL P k w' b ((kl, v) :: eraseL L kl) ∧ Keep (fun j => j = b) w w' ∧ w'.heap.size = w.heap.size := by
  have hkl := keyLit_of K hkey
  obtain ⟨ha, es, he, ho⟩ := h
  obtain ⟨w', hrun, ho', ht'⟩ := ho.store K ht hn hkey (d := .held v) (ps := []) rfl
  have hp : (DataW.insert (kl, .held v) (es.filter fun p => !p.1.sameKey kl)).Perm (((kl, v) :: eraseL L kl).map hd) := by
    refine (WideShapes.insert_perm _ _).trans ?_
    refine List.Perm.cons _ ?_
    have := he.filter (fun p : Lit × DataW Value => !p.1.sameKey kl)
    rw [List.filter_map] at this
    exact this
  have hg := ht'.grown
  refine ⟨w', hrun, ⟨apart_put ha hkl v, _, hp, ?_⟩, (Keep.of_grown hg).mono (fun j _ e => by cases e; rfl), ?_⟩
  · have hs := ho'.size_le
    obtain ⟨es2, c2, hb2, F2, _, e2⟩ := ho'
    refine ⟨es2, c2, hb2, F2, ?_, e2⟩
    have e3 := hp.length_eq
    have e4 : (DataW.insert (kl, DataW.held v) (es.filter fun p => !p.1.sameKey kl)).length = es2.size := by
      have := congrArg (fun D : DataW Value => Maps.size D) e2
      simp only [DataW.put, Maps.size, length_sorted, List.length_map, Array.length_toList] at this
      exact this
    rw [List.length_map] at e3
    omega
  · obtain ⟨es1, c1, es2, c2, _, rfl⟩ := ht'
    simp [setBlock]
/-- delete(m, k) -/
theorem MapL.drop {t e : TypeId} (h : MapL P k w b L) (K : Keyed P k) (ht : P.underlying t = some (.map k e)) {key : Value} {kl : Lit} (hkey : keyOf P k key = some kl) (ty : TypeId) :
    ∃ w', (Builtin.delete_ #[t, k] ty #[.map (some b), key]).run P w = .ok (.tuple #[]) w' ∧ MapL P k w' b (eraseL L kl) ∧ Keep (fun j => j = b) w w' ∧ w'.heap.size = w.heap.size := by
  obtain ⟨ha, es, he, ho⟩ := h
  obtain ⟨w', hrun, ho', ht'⟩ := ho.drop K ht hkey ty
  have hp : (es.filter fun p => !p.1.sameKey kl).Perm ((eraseL L kl).map hd) := by
    have := he.filter (fun p : Lit × DataW Value => !p.1.sameKey kl)
    rw [List.filter_map] at this
    exact this
  have hg := ht'.grown
  refine ⟨w', hrun, ⟨apart_erase ha kl, _, hp, ?_⟩, (Keep.of_grown hg).mono (fun j _ e => by cases e; rfl), ?_⟩
  · obtain ⟨es2, c2, hb2, F2, _, e2⟩ := ho'
    refine ⟨es2, c2, hb2, F2, ?_, e2⟩
    have e3 := hp.length_eq
    have e4 : (es.filter fun p => !p.1.sameKey kl).length = es2.size := by
      have := congrArg (fun D : DataW Value => Maps.size D) e2
      simp only [DataW.del, Maps.size, length_sorted, List.length_map, Array.length_toList] at this
      exact this
    rw [List.length_map] at e3
    omega
  · obtain ⟨es1, c1, es2, c2, _, rfl⟩ := ht'
    simp [setBlock]
theorem MapL.size (h : MapL P k w b L) : ∃ es, w.ownsMap P k heldE b L.length (.map es) ∧ es.Perm (L.map hd) ∧ Maps.size (.map es) = L.length := by
  obtain ⟨_, es, he, ho⟩ := h
  exact ⟨es, ho, he, by rw [Maps.size_eq, he.length_eq, List.length_map]⟩
/-- len(m) -/
theorem MapL.len {t e : TypeId} (h : MapL P k w b L) (ht : P.underlying t = some (.map k e)) (ty : TypeId) : (Builtin.len_ #[t] ty #[.map (some b)]).run P w = .ok (.int .i64 L.length) w := by
  obtain ⟨es, ho, _, hs⟩ := h.size
  rw [ho.len ht ty, hs]

/-- An iterator (block r) over the map of block b; 'todo' is still to come. -/
def RangeL (P : Program) (k : TypeId) (w : World) (b r : Nat) (L todo : List (Lit × Value)) : Prop :=
  Apart L ∧ (∀ p ∈ todo, p ∈ L) ∧ Apart todo ∧ ∃ es left cnt, es.Perm (L.map hd) ∧ w.ranges P k heldE b r L.length (.map es) left cnt ∧ ∀ kl, left kl = true ↔ ∃ v, (kl, v) ∈ todo

theorem RangeL.map {r : Nat} {todo : List (Lit × Value)} (h : RangeL P k w b r L todo) : MapL P k w b L := by
  obtain ⟨ha, _, _, es, left, cnt, he, hr, _⟩ := h
  exact ⟨ha, es, he, hr.owns⟩
theorem RangeL.same {w' : World} {r : Nat} {todo : List (Lit × Value)} (h : RangeL P k w b r L todo) (eb : w'.heap[b]? = w.heap[b]?) (er : w'.heap[r]? = w.heap[r]?) : RangeL P k w' b r L todo := by
  obtain ⟨ha, h1, h2, es, left, cnt, he, hr, h3⟩ := h
  refine ⟨ha, h1, h2, es, left, cnt, he, ?_, h3⟩
  obtain ⟨es1, clock, since, seen, c0, hb, F, hs, e, hrr, rest⟩ := hr
  exact ⟨es1, clock, since, seen, c0, eb.trans hb, F, hs, e, er.trans hrr, rest⟩
theorem RangeL.lt {r : Nat} {todo : List (Lit × Value)} (h : RangeL P k w b r L todo) : r < w.heap.size := by
  obtain ⟨_, _, _, es, left, cnt, _, hr, _⟩ := h; exact hr.lt
theorem RangeL.keep {A : Nat → Prop} {w' : World} {r : Nat} {todo : List (Lit × Value)} (h : RangeL P k w b r L todo) (hk : Keep A w w') (hb : ¬ A b) (hr : ¬ A r) : RangeL P k w' b r L todo :=
  h.same (hk.block b h.map.lt hb) (hk.block r h.lt hr)
/-- range m -/
theorem MapL.range {t e : TypeId} (h : MapL P k w b L) (K : Keyed P k) (ht : P.underlying t = some (.map k e)) :
    ∃ w', (Instr.range t (.map (some b))).run P w = .ok (.pointer (some ⟨w.heap.size, 0, none⟩)) w' ∧ RangeL P k w' b w.heap.size L L ∧ Keep No w w' ∧ w'.heap.size = w.heap.size + 1 := by
  have hkeys := h.keys K
  obtain ⟨ha, es, he, ho⟩ := h
  obtain ⟨w', hrun, hr, hg, hs⟩ := ho.range K ht
  refine ⟨w', hrun, ⟨ha, fun _ h => h, ha, es, _, _, he, hr, fun kl => ?_⟩, (Keep.of_grown hg).mono (fun j _ e => by cases e), hs⟩
  rw [Maps.has_eq, List.any_eq_true]
  constructor
  · rintro ⟨p, hp, hs⟩
    obtain ⟨q, hq, rfl⟩ := List.mem_map.1 (he.mem_iff.1 hp)
    have := WideAt.sameKey_eq hs
    simp only [hd] at this
    subst this
    exact ⟨q.2, hq⟩
  · rintro ⟨v, hv⟩
    exact ⟨hd (kl, v), he.mem_iff.2 (List.mem_map_of_mem hv), WideAt.sameKey_self (hkeys _ hv)⟩
/-- the next entry -/
theorem RangeL.next {r : Nat} {todo : List (Lit × Value)} (h : RangeL P k w b r L todo) (K : Keyed P k) (ty : TypeId) :
    (todo = [] ∧ (Instr.next (.pointer (some ⟨r, 0, none⟩)) false ty).run P w = .ok (.tuple #[.bool false]) w) ∨
    ∃ key v kl w', keyOf P k key = some kl ∧ (kl, v) ∈ todo ∧ (Instr.next (.pointer (some ⟨r, 0, none⟩)) false ty).run P w = .ok (.tuple #[.bool true, key, v]) w' ∧
      RangeL P k w' b r L (eraseL todo kl) ∧ w'.rangeLeft b r < w.rangeLeft b r ∧ Keep (fun j => j = r) w w' ∧ w'.heap.size = w.heap.size ∧ (Instr.entry (.pointer (some ⟨r, 0, none⟩))).run P w' = .ok (.tuple #[key, v]) w' := by
  have hkeys := h.map.keys K
  obtain ⟨ha, h1, h2, es, left, cnt, he, hr, h3⟩ := h
  rcases hr.next K ty with ⟨h0, hl, hrun⟩ | ⟨key, v, kl, y, w', cnt', hkey, hlk, hRv, hat, hrun, hr', hlt, hg, hs, hen⟩
  · refine .inl ⟨?_, hrun⟩
    cases todo with
    | nil => rfl
    | cons p r =>
      have := (h3 p.1).2 ⟨p.2, by simp⟩
      rw [hl] at this; cases this
  · refine .inr ⟨key, v, kl, w', hkey, ?_⟩
    cases hRv
    have hkl := keyLit_of K hkey
    obtain ⟨v', hv'⟩ := (h3 kl).1 hlk
    have hm := h1 _ hv'
    have hfind : es.find? (fun p => p.1.sameKey kl) = some (hd (kl, v')) :=
      (find_some (apart_perm he.symm (apart_map.2 ha)) hkl _).2 ⟨he.mem_iff.2 (List.mem_map_of_mem hm), rfl⟩
    have := hat (.held (.bool false))
    unfold DataW.atKey at this
    simp only [hfind, hd] at this
    cases this
    refine ⟨hv', hrun, ⟨ha, fun p hp => h1 p ((mem_erase hkl).1 hp).1, apart_erase h2 kl, es, _, _, he, hr', fun kl' => ?_⟩, by rw [hr'.left_eq, hr.left_eq]; exact hlt, (Keep.of_grown hg).mono (fun j _ e => by cases e; rfl), hs, hen⟩
    rw [Bool.and_eq_true, h3]
    constructor
    · rintro ⟨⟨v2, hv2⟩, hne⟩
      refine ⟨v2, (mem_erase hkl).2 ⟨hv2, fun e => ?_⟩⟩
      simp only at e
      subst e
      rw [WideAt.sameKey_self hkl] at hne; cases hne
    · rintro ⟨v2, hv2⟩
      obtain ⟨h4, h5⟩ := (mem_erase hkl).1 hv2
      exact ⟨⟨v2, h4⟩, by rw [Maps.sameKey_ne h5]; rfl⟩

theorem rg_lookup {t e : TypeId} (h : MapL P k w b L) (K : Keyed P k) (ht : P.underlying t = some (.map k e)) {z : Value} (hz : (zeroValue e).run P w = .ok z w) {key : Value} {kl : Lit} (hkey : keyOf P k key = some kl) {G : Value → World → Prop}
    (hk : G ((findL L kl).getD z) w) : LookupGoal P t (.map (some b)) key false w G := .mk (h.lookup K ht hz hkey) hk
theorem rg_lookup_ok {t e : TypeId} (h : MapL P k w b L) (K : Keyed P k) (ht : P.underlying t = some (.map k e)) {z : Value} (hz : (zeroValue e).run P w = .ok z w) {key : Value} {kl : Lit} (hkey : keyOf P k key = some kl) {G : Value → World → Prop}
    (hk : G (.tuple #[(findL L kl).getD z, .bool (findL L kl).isSome]) w) : LookupGoal P t (.map (some b)) key true w G := .mk (h.lookup_ok K ht hz hkey) hk
theorem rg_store {t e : TypeId} (h : MapL P k w b L) (K : Keyed P k) (ht : P.underlying t = some (.map k e)) (hn : L.length < maxLen) {key v : Value} {kl : Lit} (hkey : keyOf P k key = some kl) {G : World → Prop}
    (hk : ∀ w', MapL P k w' b ((kl, v) :: eraseL L kl) → Keep (fun j => j = b) w w' → w'.heap.size = w.heap.size → G w') : UpdateGoal P t (.map (some b)) key v w G := by
  obtain ⟨w', hr, h1, h2, h3⟩ := h.store K ht hn (v := v) hkey
  exact .mk hr (hk w' h1 h2 h3)
theorem rg_delete {t e : TypeId} (h : MapL P k w b L) (K : Keyed P k) (ht : P.underlying t = some (.map k e)) {key : Value} {kl : Lit} (hkey : keyOf P k key = some kl) {ty : TypeId} {G : Value → World → Prop}
    (hk : ∀ w', MapL P k w' b (eraseL L kl) → Keep (fun j => j = b) w w' → w'.heap.size = w.heap.size → G (.tuple #[]) w') : DeleteGoal P t k ty (.map (some b)) key w G := by
  obtain ⟨w', hr, h1, h2, h3⟩ := h.drop K ht hkey ty
  exact .mk hr (hk w' h1 h2 h3)
theorem rg_len {t e : TypeId} (h : MapL P k w b L) (ht : P.underlying t = some (.map k e)) {ty : TypeId} {G : Value → World → Prop} (hk : G (.int .i64 L.length) w) : LenGoal P t ty (.map (some b)) w G := .mk (h.len ht ty) hk
theorem rg_range {t e : TypeId} (h : MapL P k w b L) (K : Keyed P k) (ht : P.underlying t = some (.map k e)) {G : Value → World → Prop}
    (hk : ∀ w', RangeL P k w' b w.heap.size L L → Keep No w w' → w'.heap.size = w.heap.size + 1 → G (.pointer (some ⟨w.heap.size, 0, none⟩)) w') : RangeGoal P t (.map (some b)) w G := by
  obtain ⟨w', hr, h1, h2, h3⟩ := h.range K ht
  exact .mk hr (hk w' h1 h2 h3)
theorem rg_next {r : Nat} {todo : List (Lit × Value)} (h : RangeL P k w b r L todo) (K : Keyed P k) {ty : TypeId} {G : Value → World → Prop}
    (h0 : todo = [] → G (.tuple #[.bool false]) w)
    (h1 : ∀ key v kl w', keyOf P k key = some kl → (kl, v) ∈ todo → RangeL P k w' b r L (eraseL todo kl) → w'.rangeLeft b r < w.rangeLeft b r → Keep (fun j => j = r) w w' → w'.heap.size = w.heap.size →
      (Instr.entry (.pointer (some ⟨r, 0, none⟩))).run P w' = .ok (.tuple #[key, v]) w' → G (.tuple #[.bool true, key, v]) w') : NextGoal P (.pointer (some ⟨r, 0, none⟩)) false ty w G := by
  rcases h.next K ty with ⟨e, hr⟩ | ⟨key, v, kl, w', a1, a2, a3, a4, a5, a6, a7, a8⟩
  · exact .mk hr (h0 e)
  · exact .mk a3 (h1 key v kl w' a1 a2 a4 a5 a6 a7 a8)
end
end Go.Dm
namespace Go.Dm.Vm
open Go

structure Pg where
  addr : Nat
  prot : Nat
  dirty : Bool
  file : List UInt8
  off : Nat
  b : List UInt8
abbrev V := List Pg
def top : Nat := 4294967296
def pageOf (a : Nat) : Nat := a / 256 * 256
/-- the page of a page's address -/
def pageAt (m : V) (a : Nat) : Option Pg := m.find? (fun p => p.addr == a)
structure PgOk (p : Pg) : Prop where
  al : p.addr % 256 = 0
  lt : p.addr < top
  pr : p.prot ≤ 7
  bl : p.b.length = 256
  ol : p.off < 18446744073709551616
  fl : p.file.length ≤ maxLen
structure Ok (m : V) : Prop where
  srt : m.Pairwise (fun p q => p.addr < q.addr)
  pg : ∀ p ∈ m, PgOk p
  len : m.length ≤ 512
def may (addr size : Nat) (prot : Int) : Bool := addr % 256 == 0 && size % 256 == 0 && decide (0 < size) && decide (addr ≤ top) && decide (size ≤ top - addr) && decide (0 ≤ prot) && decide (prot ≤ 7)
/-- how many pages a span has a part of -/
def pagesN (addr size : Nat) : Nat := (addr % 256 + size + 255) / 256
def pagesOf (addr size : Nat) : List Nat := (List.range (pagesN addr size)).map fun k => pageOf addr + 256 * k
def there (m : V) (addr size : Nat) : Bool := (pagesOf addr size).all fun a => (pageAt m a).isSome
/-- the error of a span some of whose pages aren't there -/
def heldE (m : V) (addr size : Nat) : Nat := if addr > top ∨ size > top - addr ∨ size > 131328 then 40 else if there m addr size then 0 else 40

theorem get_mem {m : V} {a : Nat} {p : Pg} (h : pageAt m a = some p) : p ∈ m ∧ p.addr = a := by
  unfold pageAt at h
  exact ⟨List.mem_of_find?_eq_some h, by simpa using List.find?_some h⟩
theorem get_of_mem {m : V} (hs : m.Pairwise (fun p q => p.addr < q.addr)) {p : Pg} (h : p ∈ m) : pageAt m p.addr = some p := by
  induction m with
  | nil => cases h
  | cons q r ih =>
    rw [List.pairwise_cons] at hs
    unfold pageAt
    rcases List.mem_cons.1 h with rfl | h
    · simp
    · have := hs.1 p h
      rw [List.find?_cons_of_neg (by simp; omega)]
      exact ih hs.2 h

theorem mask_hi (a : Nat) (h : a < 18446744073709551616) : a &&& 18446744073709551360 = a / 256 * 256 := by
  have e1 : (18446744073709551360 : Nat) = (2 ^ 56 - 1) <<< 8 := by decide
  have e2 : a / 256 * 256 = (a >>> 8) <<< 8 := by rw [Nat.shiftLeft_eq, Nat.shiftRight_eq_div_pow]
  rw [e1, e2]
  apply Nat.eq_of_testBit_eq
  intro i
  rw [Nat.testBit_and, Nat.testBit_shiftLeft, Nat.testBit_shiftLeft, Nat.testBit_shiftRight, Nat.testBit_two_pow_sub_one]
  by_cases h8 : 8 ≤ i
  · simp only [ge_iff_le, h8, decide_true, Bool.true_and]
    rw [show 8 + (i - 8) = i by omega]
    by_cases h64 : i - 8 < 56
    · simp [h64]
    · have : a.testBit i = false := Nat.testBit_lt_two_pow (Nat.lt_of_lt_of_le h (Nat.pow_le_pow_right (n := 2) (by decide) (show 64 ≤ i by omega)))
      simp [this]
  · simp [h8]
theorem andNot_255 (a : Nat) (h : a < 18446744073709551616) : bits .andNot .u64 (a : Int) 255 = ((pageOf a : Nat) : Int) := by
  have := u64_andNot_nat a 255 h (by decide)
  rw [show ((255 : Nat) : Int) = 255 from rfl] at this
  rw [this]
  unfold pageOf
  rw [← mask_hi a h]
theorem pageOf_le (a : Nat) : pageOf a ≤ a := by unfold pageOf; omega
theorem pageOf_pageOf (a k : Nat) : pageOf (pageOf a + 256 * k) = pageOf a + 256 * k := by unfold pageOf; omega
/-- the loop over a span's pages -/
theorem pages_step (addr size k : Nat) (hs : 0 < size) : pageOf addr + 256 * k < addr + size ↔ k < pagesN addr size := by
  unfold pageOf pagesN; omega
end Go.Dm.Vm
namespace Go.Proofs.Ytaoillfofiehpaa
open Go.RowKit Go.Dm Go.Dm.Vm Go.Maps

def ptrTo (b : Nat) : Value := .pointer (some ⟨b, 0, none⟩)
/-- the call of a function value enters it -/
def Enters (f : Nat) (c : Array Value) : Prop := ∀ w : World, (callFunc f c).run Try.prog w = .ok (.enter f c) w
def pgC (p : Pg) : Array Value := (Value.int .i64 p.prot :: Value.bool p.dirty :: Value.string ⟨p.file.toArray⟩ :: Value.int .u64 p.off :: p.b.map bv).toArray
theorem pgC_size {p : Pg} (h : p.b.length = 256) : (pgC p).size = 260 := by simp [pgC, h]
theorem pgC_byte (p : Pg) (r : Nat) : (pgC p)[4 + r]? = (p.b[r]?).map bv := by
  rw [show 4 + r = r + 4 by omega]
  simp [pgC]
def VL (f : Nat → Nat) (m : V) : List (Lit × Value) := m.map fun p => (.int .u64 p.addr, ptrTo (f p.addr))
structure SRep (A : Nat → Prop) (w : World) (d : Nat) (m : V) (mb : Nat) (f : Nat → Nat) : Prop where
  blk : Blk w d #[.map (some mb)] 70
  mp : MapL Try.prog 24 w mb (VL f m)
  pg : ∀ p ∈ m, A (f p.addr) ∧ Blk w (f p.addr) (pgC p) 67
  inj : ∀ p ∈ m, ∀ q ∈ m, f p.addr = f q.addr → p.addr = q.addr
  ok : Ok m
  Ad : A d
  Am : A mb
def SR (A : Nat → Prop) (w : World) (d : Nat) (m : V) : Prop := ∃ mb f, SRep A w d m mb f

section
variable {A B S : Nat → Prop} {w w' : World} {d mb : Nat} {f : Nat → Nat} {m : V}
theorem SRep.same (h : SRep A w d m mb f) (e : ∀ k, A k → w'.heap[k]? = w.heap[k]?) : SRep A w' d m mb f where
  blk := h.blk.same (e d h.Ad)
  mp := h.mp.same (e mb h.Am)
  pg := fun p hp => ⟨(h.pg p hp).1, (h.pg p hp).2.same (e _ (h.pg p hp).1)⟩
  inj := h.inj
  ok := h.ok
  Ad := h.Ad
  Am := h.Am
theorem SRep.keep (h : SRep A w d m mb f) (hk : Keep S w w') (hS : ∀ k, A k → ¬ S k) (hA : ∀ k, A k → k < w.heap.size) : SRep A w' d m mb f := h.same fun k ha => hk.block k (hA k ha) (hS k ha)
theorem SRep.mono (h : SRep A w d m mb f) (hab : ∀ k, k < w.heap.size → A k → B k) : SRep B w d m mb f where
  blk := h.blk
  mp := h.mp
  pg := fun p hp => ⟨hab _ (h.pg p hp).2.lt (h.pg p hp).1, (h.pg p hp).2⟩
  inj := h.inj
  ok := h.ok
  Ad := hab _ h.blk.lt h.Ad
  Am := hab _ h.mp.lt h.Am
theorem SR.mono (h : SR A w d m) (hab : ∀ k, k < w.heap.size → A k → B k) : SR B w d m := by
  obtain ⟨mb, f, h⟩ := h
  exact ⟨mb, f, h.mono hab⟩
theorem SR.keep (h : SR A w d m) (hk : Keep S w w') (hS : ∀ k, A k → ¬ S k) (hA : ∀ k, A k → k < w.heap.size) : SR A w' d m := by
  obtain ⟨mb, f, h⟩ := h
  exact ⟨mb, f, h.keep hk hS hA⟩
end
/-- memory whose own memory lies in P -/
def Sp (P : Nat → Prop) (w : World) (d : Nat) (m : V) : Prop := SR (fun k => P k ∧ k < w.heap.size) w d m
theorem Sp.keep {P S : Nat → Prop} {w w' : World} {d : Nat} {m : V} (h : Sp P w d m) (hk : Keep S w w') (hS : ∀ k, P k → ¬ S k) : Sp P w' d m :=
  (SR.keep h hk (fun k hk => hS k hk.1) fun k hk => hk.2).mono fun _ hk ha => ⟨ha.1, hk⟩

theorem kU64 : Keyed Try.prog 24 := int_keyed Try.underlying24
theorem zPage (w : World) : (zeroValue 64).run Try.prog w = .ok (.pointer none) w := by kernel_rfl
theorem kOf {a : Nat} (h : a < 18446744073709551616) : keyOf Try.prog 24 (.int .u64 (a : Int)) = some (.int .u64 (a : Int)) := keyOf_int_mk Try.underlying24 (by
  simp [Lit.wf, IntKind.min, IntKind.max, IntKind.signed, IntKind.bits]; omega)
def atV (f : Nat → Nat) (m : V) (a : Nat) : Value := ((pageAt m a).map fun p => ptrTo (f p.addr)).getD (.pointer none)
theorem findL_VL (f : Nat → Nat) (m : V) (a : Nat) : findL (VL f m) (.int .u64 (a : Int)) = (pageAt m a).map fun p => ptrTo (f p.addr) := by
  unfold findL VL pageAt
  rw [List.find?_map, Option.map_map]
  congr 1
  have e : ((fun p : Lit × Value => p.1.sameKey (Lit.int .u64 (a : Int))) ∘ fun p : Pg => (Lit.int .u64 (p.addr : Int), ptrTo (f p.addr))) = fun p : Pg => p.addr == a := by
    funext p
    simp [Lit.sameKey]
    rw [Bool.eq_iff_iff]
    simp only [decide_eq_true_eq, beq_iff_eq]
    omega
  rw [e]

set_option maxHeartbeats 400000 in
theorem vbase_any (a : Nat) (h : a < 18446744073709551616) (w : World) : Calls Try.prog 53 #[.int .u64 (a : Int)] w fun e w' => e = .returned (.int .u64 ((pageOf a : Nat) : Int)) ∧ w = w' := by
  have e := andNot_255 a h
  go_enter Try.func53, Try.ntmps53
  go_wp2_with fail
  go_ret
  exact ⟨rfl, rfl⟩
set_option maxHeartbeats 1000000 in
theorem vmay_any (a s : Nat) (p : Int) (ha : a < 18446744073709551616) (hs : s < 18446744073709551616) (w : World) : Calls Try.prog 29 #[.int .u64 (a : Int), .int .u64 (s : Int), .int .i64 p] w fun e w' => e = .returned (.bool (may a s p)) ∧ w = w' := by
  go_enter Try.func29, Try.ntmps29
  go_wp2_with fail
  all_goals
    go_ret
    refine ⟨congrArg (fun b => Ending.returned (Value.bool b)) ?_, rfl⟩
    rw [Bool.eq_iff_iff]
    have ht : top = 4294967296 := rfl
    simp only [may, Bool.and_eq_true, decide_eq_true_eq, beq_iff_eq, Bool.false_eq_true, false_iff]
    omega
set_option maxRecDepth 100000 in
set_option maxHeartbeats 1000000 in
/-- something is done for each page of a span: R holds ahead of the k-th; Q is said of the first error -/
theorem veach_any {f : Nat} {c : Array Value} {w : World} (addr size : Nat) (R : Nat → World → Prop) (Q : Nat → World → Prop) (hs : 0 < size) (ha : addr ≤ top) (hz : size ≤ top - addr) (hent : ∀ a, Enters f (#[a] ++ c)) (h0 : R 0 w)
    (hstep : ∀ k w', k < pagesN addr size → R k w' → Calls Try.prog f (#[.int .u64 ((pageOf addr + 256 * k : Nat) : Int)] ++ c) w' fun e w'' => (e = .returned (.int .i64 0) ∧ R (k + 1) w'') ∨ ∃ er : Nat, er ≠ 0 ∧ e = .returned (.int .i64 (er : Int)) ∧ Q er w'') :
    Calls Try.prog 33 #[.int .u64 (addr : Int), .int .u64 (size : Int), .func (.func f) #[] c] w fun e w' => (e = .returned (.int .i64 0) ∧ R (pagesN addr size) w') ∨ ∃ er : Nat, er ≠ 0 ∧ e = .returned (.int .i64 (er : Int)) ∧ Q er w' := by
  unfold top at ha hz
  unfold Enters at hent
  have hpl := pageOf_le addr
  have HS := Lib.hid hstep
  clear hstep
  go_enter Try.func33, Try.ntmps33
  go_wp2_with fail
  refine (vbase_any addr (by omega) _).mono ?_
  rintro e x ⟨rfl, rfl⟩
  go_wp2_with fail
  go_loopw [7] (fun av wr => ∃ k : Nat, av = .int .u64 ((pageOf addr + 256 * k : Nat) : Int) ∧ k ≤ pagesN addr size ∧ R k wr) (fun av _ => pageOf addr + 256 * pagesN addr size - (intOf av).toNat)
  case atStart => exact ⟨0, rfl, Nat.zero_le _, h0⟩
  case round =>
    clear h0
    obtain ⟨k, rfl, hk, hR⟩ := hrel
    have hiff := pages_step addr size k hs
    have hb : pageOf addr + 256 * pagesN addr size ≤ 4294967296 := by unfold pageOf pagesN; omega
    rcases Nat.lt_or_ge k (pagesN addr size) with hkl | hkl
    · have hlt := hiff.2 hkl
      have hcall := HS.out k _ hkl hR
      have hstp : pageOf addr + 256 * k + 256 = pageOf addr + 256 * (k + 1) := by omega
      have hle1 : pageOf addr + 256 * (k + 1) ≤ 4294967296 := Nat.le_trans (by have := Nat.mul_le_mul_left 256 (Nat.succ_le_of_lt hkl); omega) hb
      have HC := Lib.hid hcall
      have hltz : ((pageOf addr + 256 * k : Nat) : Int) < (addr : Int) + (size : Int) := by omega
      have H1 := Lib.hid hstp
      clear hcall hiff hstp
      generalize pageOf addr + 256 * k = at_ at *
      go_wp2_with fail
      refine HC.out.mono ?_
      rintro e w2 (⟨rfl, hR2⟩ | ⟨er, hne, rfl, hQ⟩)
      · go_wp2_with fail
        go_roundw
        case rel => exact ⟨k + 1, by rw [← H1.out]; go_num, hkl, hR2⟩
        case measure => have := H1.out; simp [intOf]; omega
      · have hne' : ((er : Int) == 0) = false := by simpa using hne
        go_wp2_with fail
        go_ret
        exact .inr ⟨er, hne, rfl, hQ⟩
    · obtain rfl : k = pagesN addr size := Nat.le_antisymm hk hkl
      have hge : ((pageOf addr + 256 * pagesN addr size : Nat) : Int) ≥ (addr : Int) + (size : Int) := by
        have : ¬ pageOf addr + 256 * pagesN addr size < addr + size := fun h => absurd (hiff.1 h) (Nat.lt_irrefl _)
        omega
      clear hiff
      generalize pageOf addr + 256 * pagesN addr size = at_ at *
      go_wp2_with fail
      go_ret
      exact .inl ⟨rfl, hR⟩
end Go.Proofs.Ytaoillfofiehpaa
namespace Go.Dm
open Go Go.RowKit

/-- x & b, for numbers b of few bits -/
def mask (x : Int) (b : Nat) : Nat := (BitVec.ofInt 64 x).toNat &&& b
theorem mask_le (x : Int) (b : Nat) : mask x b ≤ b := Nat.and_le_right
theorem mask_eq (x : Int) (b : Nat) (hb : b < 4294967296) : bits .and .i64 x (b : Int) = (mask x b : Int) := by
  have h2 : (BitVec.ofInt 64 (b : Int)).toNat = b := by
    rw [BitVec.ofInt_natCast, BitVec.toNat_ofNat]; exact Nat.mod_eq_of_lt (by omega)
  have hx := mask_le x b
  unfold mask at hx
  show IntKind.i64.wrap ((BitVec.ofInt 64 x &&& BitVec.ofInt 64 (b : Int)).toNat : Int) = _
  rw [BitVec.toNat_and, h2, IntKind.wrap_i64]
  unfold mask
  omega
end Go.Dm
namespace Go.Proofs.Ytaoillfofiehpaa
open Go.RowKit Go.Dm Go.Dm.Vm Go.Maps

section
variable {A : Nat → Prop} {w : World} {d mb x y : Nat} {f : Nat → Nat} {m : V}
def held1E (m : V) (a : Nat) : Nat := if (pageAt m a).isSome then 0 else 40
set_option maxRecDepth 100000 in
set_option maxHeartbeats 1000000 in
theorem vheld1_any (a : Nat) (ha : a < 18446744073709551616) (h : SRep A w d m mb f) (hx : Blk w x #[ptrTo d] 28) :
    Calls Try.prog 58 #[.int .u64 (a : Int), ptrTo x] w fun e w' => e = .returned (.int .i64 (held1E m a : Nat)) ∧ w = w' := by
  have q0 : w.cell? ⟨x, 0, none⟩ = some (ptrTo d) := hx.cell 0
  have q1 : w.cell? ⟨d, 0, none⟩ = some (.map (some mb)) := h.blk.cell 0
  unfold ptrTo at q0 ⊢
  clear hx
  go_enter Try.func58, Try.ntmps58
  go_wp2_with (at_lookup; refine wl_lookup rfl _ _ _ _ rfl _ _ rfl rfl ?_)
  refine rg_lookup h.mp kU64 Try.underlying68 (zPage w) (kOf ha) ?_
  rw [findL_VL]
  cases hg : pageAt m a with
  | none =>
    have HE : Hid (held1E m a = 40) := Lib.hid (by unfold held1E; rw [hg]; rfl)
    simp only [Option.map_none, Option.getD_none]
    go_wp2_with fail
    go_ret
    rw [HE.out]
    exact ⟨rfl, rfl⟩
  | some p =>
    have HE : Hid (held1E m a = 0) := Lib.hid (by unfold held1E; rw [hg]; rfl)
    simp only [Option.map_some, Option.getD_some]
    unfold ptrTo
    go_wp2_with fail
    go_ret
    rw [HE.out]
    exact ⟨rfl, rfl⟩
theorem Enters.of2 {f : Nat} (h : ∀ a b : Value, Enters f #[a, b]) (b : Value) : ∀ a, Enters f (#[a] ++ #[b]) := fun a => h a b
theorem there_take (m : V) (addr size : Nat) : there m addr size = true ↔ ∀ k, k < pagesN addr size → (pageAt m (pageOf addr + 256 * k)).isSome = true := by
  unfold there pagesOf
  rw [List.all_eq_true]
  constructor
  · intro h k hk
    exact h _ (List.mem_map.2 ⟨k, List.mem_range.2 hk, rfl⟩)
  · intro h a ha
    obtain ⟨k, hk, rfl⟩ := List.mem_map.1 ha
    exact h k (List.mem_range.1 hk)
set_option maxRecDepth 100000 in
set_option maxHeartbeats 1000000 in
theorem vheld_any (addr size : Nat) (hs : 0 < size) (ha : addr < 18446744073709551616) (hz : size < 18446744073709551616) (h : SRep A w d m mb f) (hA : ∀ k, A k → k < w.heap.size) :
    Calls Try.prog 45 #[ptrTo d, .int .u64 (addr : Int), .int .u64 (size : Int)] w fun e w' => e = .returned (.int .i64 (heldE m addr size : Nat)) ∧ Keep No w w' := by
  have hdef : heldE m addr size = if addr > top ∨ size > top - addr ∨ size > 131328 then 40 else if there m addr size then 0 else 40 := rfl
  have HD := Lib.hid hdef
  have ht : top = 4294967296 := rfl
  clear hdef
  unfold ptrTo
  go_enter Try.func45, Try.ntmps45
  by_cases hbad : addr > top ∨ size > top - addr ∨ size > 131328
  · have he : heldE m addr size = 40 := by rw [HD.out, if_pos hbad]
    have HE := Lib.hid he
    clear he HD
    have h3 : (addr : Int) > 4294967296 ∨ ((addr : Int) ≤ 4294967296 ∧ (size : Int) > 4294967296 - (addr : Int)) ∨ ((addr : Int) ≤ 4294967296 ∧ (size : Int) ≤ 4294967296 - (addr : Int) ∧ (size : Int) > 131328) := by omega
    rcases h3 with h3 | ⟨h3, h4⟩ | ⟨h3, h4, h5⟩
    all_goals
      go_wp2_with fail
      go_ret
      rw [HE.out]
      exact ⟨rfl, (Keep.refl _ _).alloc _⟩
  · have h3 : (addr : Int) ≤ 4294967296 := by omega
    have h4 : (size : Int) ≤ 4294967296 - (addr : Int) := by omega
    have h5 : (size : Int) ≤ 131328 := by omega
    have he : heldE m addr size = if there m addr size then 0 else 40 := by rw [HD.out, if_neg hbad]
    have HE := Lib.hid he
    clear he HD
    go_wp2_with fail
    have hkW : Keep No w (w.alloc (.cells #[.pointer (some ⟨d, 0, none⟩)] 28)) := (Keep.refl _ _).alloc _
    have hBW : Blk (w.alloc (.cells #[.pointer (some ⟨d, 0, none⟩)] 28)) w.heap.size #[.pointer (some ⟨d, 0, none⟩)] 28 := Blk.new _ _ _
    have hzW : (w.alloc (.cells #[.pointer (some ⟨d, 0, none⟩)] 28)).heap.size = w.heap.size + 1 := World.size_alloc _ _
    generalize w.alloc (.cells #[.pointer (some ⟨d, 0, none⟩)] 28) = W at *
    refine (veach_any addr size (fun k w' => Keep No W w' ∧ ∀ j, j < k → (pageAt m (pageOf addr + 256 * j)).isSome = true) (fun er w' => er = 40 ∧ Keep No W w' ∧ there m addr size = false) hs (by omega) (by omega) (Enters.of2 (fun a b w => by kernel_rfl) _) ⟨Keep.refl _ _, fun j hj => absurd hj (Nat.not_lt_zero _)⟩ ?_).mono ?_
    · rintro k w' hk ⟨hK, hall⟩
      have hpl := pageOf_le addr
      have hiff := (pages_step addr size k hs).2 hk
      refine (vheld1_any (x := w.heap.size) (pageOf addr + 256 * k) (by omega) (h.same fun j hj => ?_) (hBW.keep hK fun h => h)).mono ?_
      · exact ((hkW.trans' hK).block j (hA j hj) fun h => h)
      · rintro e w2 ⟨rfl, rfl⟩
        cases hg : (pageAt m (pageOf addr + 256 * k)).isSome with
        | true =>
          refine .inl ⟨by simp [held1E, hg], hK, fun j hj => ?_⟩
          rcases Nat.lt_or_ge j k with h | h
          · exact hall j h
          · obtain rfl : j = k := by omega
            exact hg
        | false =>
          refine .inr ⟨40, by decide, by simp [held1E, hg], rfl, hK, ?_⟩
          cases ht : there m addr size with
          | false => rfl
          | true => rw [(there_take m addr size).1 ht k hk] at hg; cases hg
    · rintro e w' (⟨rfl, hK, hall⟩ | ⟨er, hne, rfl, rfl, hK, hth⟩)
      · have hth : there m addr size = true := (there_take m addr size).2 hall
        go_wp2_with fail
        go_ret
        rw [HE.out, if_pos hth]
        exact ⟨rfl, hkW.trans' hK⟩
      · go_wp2_with fail
        go_ret
        rw [HE.out, if_neg (by rw [hth]; decide)]
        exact ⟨rfl, hkW.trans' hK⟩
theorem and_nat (a b : Nat) (ha : a < 4294967296) (hb : b < 4294967296) : bits .and .i64 (a : Int) (b : Int) = ((a &&& b : Nat) : Int) := by
  rw [mask_eq (a : Int) b hb]
  unfold mask
  rw [BitVec.ofInt_natCast, BitVec.toNat_ofNat, Nat.mod_eq_of_lt (by omega)]
def allow1E (m : V) (what a : Nat) : Nat := match pageAt m a with | some p => if p.prot &&& what = 0 then 41 else 0 | none => 41
def allowedE (m : V) (addr size what : Nat) : Nat := if (pagesOf addr size).all (fun a => allow1E m what a == 0) then 0 else 41
set_option maxRecDepth 100000 in
set_option maxHeartbeats 1000000 in
theorem vallowed1_any (a what : Nat) (hw : what < 8) {p : Pg} (ha : a < 18446744073709551616) (h : SRep A w d m mb f) (hg : pageAt m a = some p) (hx : Blk w x #[ptrTo d] 28) (hy : Blk w y #[.int .i64 (what : Int)] 3) :
    Calls Try.prog 62 #[.int .u64 (a : Int), ptrTo x, ptrTo y] w fun e w' => e = .returned (.int .i64 (allow1E m what a : Nat)) ∧ Keep No w w' := by
  have q0 : w.cell? ⟨x, 0, none⟩ = some (ptrTo d) := hx.cell 0
  have q1 : w.cell? ⟨y, 0, none⟩ = some (.int .i64 (what : Int)) := hy.cell 0
  have q2 : w.cell? ⟨d, 0, none⟩ = some (.map (some mb)) := h.blk.cell 0
  obtain ⟨hpm, hpa⟩ := get_mem hg
  have hB := (h.pg p hpm).2
  have q3 : w.cell? ⟨f p.addr, 0, none⟩ = some (.int .i64 (p.prot : Int)) := hB.cell 0
  have hpr := (h.ok.pg p hpm).pr
  have hlk : (Instr.lookup 68 (.map (some mb)) (.int .u64 (a : Int)) false).run Try.prog w = .ok (.pointer (some ⟨f p.addr, 0, none⟩)) w := by
    have h1 := h.mp.lookup kU64 Try.underlying68 (zPage w) (kOf ha)
    rw [findL_VL, hg] at h1
    exact h1
  have hlkd : (Instr.lookup 68 (.map (some mb)) (.int .u64 (a : Int)) false).run Try.prog w.drew = .ok (.pointer (some ⟨f p.addr, 0, none⟩)) w.drew := by
    have h1 := (h.mp.same (w' := w.drew) rfl).lookup kU64 Try.underlying68 (zPage w.drew) (kOf ha)
    rw [findL_VL, hg] at h1
    exact h1
  have he : allow1E m what a = if p.prot &&& what = 0 then 41 else 0 := by unfold allow1E; rw [hg]
  have hand := and_nat p.prot what (by omega) (by omega)
  have HE := Lib.hid he
  clear he hx hy hB hg hpa
  unfold ptrTo at q0 ⊢
  generalize f p.addr = g at *
  generalize p.prot &&& what = z at *
  by_cases hz : z = 0
  · subst hz
    go_enter Try.func62, Try.ntmps62
    go_wp2_with fail
    refine wp_region_sig (fun w' => w'.cell? ⟨x, 0, none⟩ = some (.pointer (some ⟨d, 0, none⟩)) ∧ w'.cell? ⟨y, 0, none⟩ = some (.int .i64 (what : Int)) ∧ w'.cell? ⟨d, 0, none⟩ = some (.map (some mb)) ∧ w'.cell? ⟨g, 0, none⟩ = some (.int .i64 (p.prot : Int)) ∧ (Instr.lookup 68 (.map (some mb)) (.int .u64 (a : Int)) false).run Try.prog w' = .ok (.pointer (some ⟨g, 0, none⟩)) w') (fun j => decide (j ≤ 99)) [(0, true), (1, true), (2, true), (3, true), (4, true), (5, true), (6, true), (7, true), (8, true), (9, true), (10, true), (11, true)] (by kernel_rfl) (by kernel_rfl) (by intro c a d v w h; cases d <;> exact h) ⟨q0, q1, q2, q3, hlkd⟩ ?_
    apply sig_still (o := ⟨some 5, _, _, _, _, _⟩) rfl rfl
    · intro w' hS
      obtain ⟨q1, q2, q3, q4, q5⟩ := hS
      first | (go_simp; done) | (go_simp; rfl) | rfl
    go_frame
    apply sig_still (o := ⟨some 6, _, _, _, _, _⟩) rfl rfl
    · intro w' hS
      obtain ⟨q1, q2, q3, q4, q5⟩ := hS
      first | (go_simp; done) | (go_simp; rfl) | rfl
    go_frame
    apply sig_still (o := ⟨some 7, _, _, _, _, _⟩) rfl rfl
    · intro w' hS
      obtain ⟨q1, q2, q3, q4, q5⟩ := hS
      first | (go_simp; done) | (go_simp; rfl) | rfl
    go_frame
    apply sig_still (o := ⟨some 8, _, _, _, _, _⟩) rfl rfl
    · intro w' hS
      obtain ⟨q1, q2, q3, q4, q5⟩ := hS
      first | (go_simp; done) | (go_simp; rfl) | rfl
    go_frame
    apply sig_still (o := ⟨some 9, _, _, _, _, _⟩) rfl rfl
    · intro w' hS
      obtain ⟨q1, q2, q3, q4, q5⟩ := hS
      first | (go_simp; done) | (go_simp; rfl) | rfl
    go_frame
    apply sig_still (o := ⟨some 10, _, _, _, _, _⟩) rfl rfl
    · intro w' hS
      obtain ⟨q1, q2, q3, q4, q5⟩ := hS
      first | (go_simp; done) | (go_simp; rfl) | rfl
    go_frame
    apply sig_still (o := ⟨some 11, _, _, _, _, _⟩) rfl rfl
    · intro w' hS
      obtain ⟨q1, q2, q3, q4, q5⟩ := hS
      first | (go_simp; done) | (go_simp; rfl) | rfl
    go_frame
    apply sig_still (o := ⟨some 12, _, _, _, _, _⟩) rfl rfl
    · intro w' hS
      obtain ⟨q1, q2, q3, q4, q5⟩ := hS
      first | (go_simp; done) | (go_simp; rfl) | rfl
    go_frame
    apply sig_still (o := ⟨some 13, _, _, _, _, _⟩) rfl rfl
    · intro w' hS
      obtain ⟨q1, q2, q3, q4, q5⟩ := hS
      first | (go_simp; done) | (go_simp; rfl) | rfl
    go_frame
    apply sig_still (o := ⟨some 14, _, _, _, _, _⟩) rfl rfl
    · intro w' hS
      obtain ⟨q1, q2, q3, q4, q5⟩ := hS
      first | (go_simp; done) | (go_simp; rfl) | rfl
    go_frame
    apply sig_still (o := ⟨some 15, _, _, _, _, _⟩) rfl rfl
    · intro w' hS
      obtain ⟨q1, q2, q3, q4, q5⟩ := hS
      first | (go_simp; done) | (go_simp; rfl) | rfl
    go_frame
    apply sig_still (o := ⟨some 16, _, _, _, _, _⟩) rfl rfl
    · intro w' hS
      obtain ⟨q1, q2, q3, q4, q5⟩ := hS
      first | (go_simp; done) | (go_simp; rfl) | rfl
    go_frame
    refine sig_nil ?_
    go_wp2_with fail
    go_ret
    exact ⟨by rw [HE.out]; rfl, (Keep.refl _ _).drew⟩
  · have hz' : ((z : Int) == 0) = false := by simpa using hz
    go_enter Try.func62, Try.ntmps62
    go_wp2_with fail
    refine wp_region_sig (fun w' => w'.cell? ⟨x, 0, none⟩ = some (.pointer (some ⟨d, 0, none⟩)) ∧ w'.cell? ⟨y, 0, none⟩ = some (.int .i64 (what : Int)) ∧ w'.cell? ⟨d, 0, none⟩ = some (.map (some mb)) ∧ w'.cell? ⟨g, 0, none⟩ = some (.int .i64 (p.prot : Int)) ∧ (Instr.lookup 68 (.map (some mb)) (.int .u64 (a : Int)) false).run Try.prog w' = .ok (.pointer (some ⟨g, 0, none⟩)) w') (fun j => decide (j ≤ 99)) [(0, true), (1, true), (2, true), (3, true), (4, true), (5, true), (6, true), (7, true), (8, true), (9, true), (10, true), (11, true)] (by kernel_rfl) (by kernel_rfl) (by intro c a d v w h; cases d <;> exact h) ⟨q0, q1, q2, q3, hlkd⟩ ?_
    apply sig_still (o := ⟨some 5, _, _, _, _, _⟩) rfl rfl
    · intro w' hS
      obtain ⟨q1, q2, q3, q4, q5⟩ := hS
      first | (go_simp; done) | (go_simp; rfl) | rfl
    go_frame
    apply sig_still (o := ⟨some 6, _, _, _, _, _⟩) rfl rfl
    · intro w' hS
      obtain ⟨q1, q2, q3, q4, q5⟩ := hS
      first | (go_simp; done) | (go_simp; rfl) | rfl
    go_frame
    apply sig_still (o := ⟨some 7, _, _, _, _, _⟩) rfl rfl
    · intro w' hS
      obtain ⟨q1, q2, q3, q4, q5⟩ := hS
      first | (go_simp; done) | (go_simp; rfl) | rfl
    go_frame
    apply sig_still (o := ⟨some 8, _, _, _, _, _⟩) rfl rfl
    · intro w' hS
      obtain ⟨q1, q2, q3, q4, q5⟩ := hS
      first | (go_simp; done) | (go_simp; rfl) | rfl
    go_frame
    apply sig_still (o := ⟨some 9, _, _, _, _, _⟩) rfl rfl
    · intro w' hS
      obtain ⟨q1, q2, q3, q4, q5⟩ := hS
      first | (go_simp; done) | (go_simp; rfl) | rfl
    go_frame
    apply sig_still (o := ⟨some 10, _, _, _, _, _⟩) rfl rfl
    · intro w' hS
      obtain ⟨q1, q2, q3, q4, q5⟩ := hS
      first | (go_simp; done) | (go_simp; rfl) | rfl
    go_frame
    apply sig_still (o := ⟨some 11, _, _, _, _, _⟩) rfl rfl
    · intro w' hS
      obtain ⟨q1, q2, q3, q4, q5⟩ := hS
      first | (go_simp; done) | (go_simp; rfl) | rfl
    go_frame
    apply sig_still (o := ⟨some 12, _, _, _, _, _⟩) rfl rfl
    · intro w' hS
      obtain ⟨q1, q2, q3, q4, q5⟩ := hS
      first | (go_simp; done) | (go_simp; rfl) | rfl
    go_frame
    apply sig_still (o := ⟨some 13, _, _, _, _, _⟩) rfl rfl
    · intro w' hS
      obtain ⟨q1, q2, q3, q4, q5⟩ := hS
      first | (go_simp; done) | (go_simp; rfl) | rfl
    go_frame
    apply sig_still (o := ⟨some 14, _, _, _, _, _⟩) rfl rfl
    · intro w' hS
      obtain ⟨q1, q2, q3, q4, q5⟩ := hS
      first | (go_simp; done) | (go_simp; rfl) | rfl
    go_frame
    apply sig_still (o := ⟨some 15, _, _, _, _, _⟩) rfl rfl
    · intro w' hS
      obtain ⟨q1, q2, q3, q4, q5⟩ := hS
      first | (go_simp; done) | (go_simp; rfl) | rfl
    go_frame
    apply sig_still (o := ⟨some 16, _, _, _, _, _⟩) rfl rfl
    · intro w' hS
      obtain ⟨q1, q2, q3, q4, q5⟩ := hS
      first | (go_simp; done) | (go_simp; rfl) | rfl
    go_frame
    refine sig_nil ?_
    go_wp2_with fail
    go_ret
    rw [HE.out, if_neg hz]
    exact ⟨rfl, (Keep.refl _ _).drew⟩
theorem Enters.of3 {f : Nat} (h : ∀ a b c : Value, Enters f #[a, b, c]) (b c : Value) : ∀ a, Enters f (#[a] ++ #[b, c]) := fun a => h a b c
set_option maxRecDepth 100000 in
set_option maxHeartbeats 1000000 in
theorem vallowed_any (addr size what : Nat) (hw : what < 8) (hs : 0 < size) (ha : addr ≤ top) (hz : size ≤ top - addr) (hth : there m addr size = true) (h : SRep A w d m mb f) (hA : ∀ k, A k → k < w.heap.size) :
    Calls Try.prog 54 #[ptrTo d, .int .u64 (addr : Int), .int .u64 (size : Int), .int .i64 (what : Int)] w fun e w' => e = .returned (.int .i64 (allowedE m addr size what : Nat)) ∧ Keep No w w' := by
  have ht : top = 4294967296 := rfl
  have hdef : allowedE m addr size what = if (pagesOf addr size).all (fun a => allow1E m what a == 0) then 0 else 41 := rfl
  have HD := Lib.hid hdef
  clear hdef
  unfold ptrTo
  go_enter Try.func54, Try.ntmps54
  go_wp2_with fail
  have hkW1 : Keep No w (w.alloc (.cells #[.pointer (some ⟨d, 0, none⟩)] 28)) := (Keep.refl _ _).alloc _
  have hBW1 : Blk (w.alloc (.cells #[.pointer (some ⟨d, 0, none⟩)] 28)) w.heap.size #[.pointer (some ⟨d, 0, none⟩)] 28 := Blk.new _ _ _
  have hzW1 : (w.alloc (.cells #[.pointer (some ⟨d, 0, none⟩)] 28)).heap.size = w.heap.size + 1 := World.size_alloc _ _
  generalize w.alloc (.cells #[.pointer (some ⟨d, 0, none⟩)] 28) = W1 at *
  have hkW : Keep No W1 (W1.alloc (.cells #[.int .i64 (what : Int)] 3)) := (Keep.refl _ _).alloc _
  have hBW : Blk (W1.alloc (.cells #[.int .i64 (what : Int)] 3)) W1.heap.size #[.int .i64 (what : Int)] 3 := Blk.new _ _ _
  have hzW : (W1.alloc (.cells #[.int .i64 (what : Int)] 3)).heap.size = W1.heap.size + 1 := World.size_alloc _ _
  generalize W1.alloc (.cells #[.int .i64 (what : Int)] 3) = W at *
  rw [hzW1] at hBW
  replace hBW1 := hBW1.keep hkW fun h => h
  replace hkW := hkW1.trans' hkW
  refine (veach_any addr size (fun k w' => Keep No W w' ∧ ∀ j, j < k → allow1E m what (pageOf addr + 256 * j) = 0) (fun er w' => er = 41 ∧ Keep No W w' ∧ ∃ j, j < pagesN addr size ∧ allow1E m what (pageOf addr + 256 * j) ≠ 0) hs ha hz (Enters.of3 (fun a b c w => by kernel_rfl) _ _) ⟨Keep.refl _ _, fun j hj => absurd hj (Nat.not_lt_zero _)⟩ ?_).mono ?_
  · rintro k w' hk ⟨hK, hall⟩
    have hpl := pageOf_le addr
    have hiff := (pages_step addr size k hs).2 hk
    have hsome := (there_take m addr size).1 hth k hk
    obtain ⟨p, hp⟩ := Option.isSome_iff_exists.1 hsome
    refine (vallowed1_any (x := w.heap.size) (y := w.heap.size + 1) (pageOf addr + 256 * k) what hw (by omega) (h.same fun j hj => (hkW.trans' hK).block j (hA j hj) fun h => h) hp (hBW1.keep hK fun h => h) (hBW.keep hK fun h => h)).mono ?_
    rintro e w2 ⟨rfl, h2⟩
    by_cases h0 : allow1E m what (pageOf addr + 256 * k) = 0
    · refine .inl ⟨by rw [h0]; rfl, hK.trans' h2, fun j hj => ?_⟩
      rcases Nat.lt_or_ge j k with h | h
      · exact hall j h
      · obtain rfl : j = k := by omega
        exact h0
    · have h41 : allow1E m what (pageOf addr + 256 * k) = 41 := by
        unfold allow1E at h0 ⊢
        rw [hp] at h0 ⊢
        simp only at h0 ⊢
        split at h0
        · rename_i hz; rw [if_pos hz]
        · exact absurd rfl h0
      exact .inr ⟨41, by decide, by rw [h41], rfl, hK.trans' h2, k, hk, h0⟩
  · rintro e w' (⟨rfl, hK, hall⟩ | ⟨er, hne, rfl, rfl, hK, j, hj, hbad⟩)
    · have he : allowedE m addr size what = 0 := by
        rw [HD.out, if_pos]
        unfold pagesOf
        rw [List.all_eq_true]
        intro a ha
        obtain ⟨k, hk, rfl⟩ := List.mem_map.1 ha
        simpa using hall k (List.mem_range.1 hk)
      have HE := Lib.hid he
      clear he HD
      go_wp2_with fail
      go_ret
      rw [HE.out]
      exact ⟨rfl, hkW.trans' hK⟩
    · have he : allowedE m addr size what = 41 := by
        rw [HD.out, if_neg]
        unfold pagesOf
        rw [List.all_eq_true]
        intro hall
        exact hbad (by simpa using hall _ (List.mem_map.2 ⟨j, List.mem_range.2 hj, rfl⟩))
      have HE := Lib.hid he
      clear he HD
      go_wp2_with fail
      go_ret
      rw [HE.out]
      exact ⟨rfl, hkW.trans' hK⟩
end
end Go.Proofs.Ytaoillfofiehpaa
