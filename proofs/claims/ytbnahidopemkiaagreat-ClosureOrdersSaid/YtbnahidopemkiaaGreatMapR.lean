/- A map as an association list (MapL), and a range over it (RangeL): lookups, stores, deletes, len, range, said once for all walks of this seat. The walk's stop at an element of a map's literal. delete(m, k) while m is ranged over. No condition. -/
import Derived.Test.YtbnahidopemkiaaGreatEnt
set_option linter.unusedVariables false
set_option linter.unusedSimpArgs false
namespace Go.Dm
open Go Go.RowKit Go.Maps Go.ChangeMaps

/-- an element reads as itself -/
def heldE (v : Value) : Option (DataW Value × List MemPlace) := some (.held v, [])
def hd (p : Lit × Value) : Lit × DataW Value := (p.1, .held p.2)
def Apart (L : List (Lit × Value)) : Prop := L.Pairwise (fun p q => p.1 ≠ q.1)
def findL (L : List (Lit × Value)) (k : Lit) : Option Value := (L.find? (fun p => p.1.sameKey k)).map (·.2)
def eraseL (L : List (Lit × Value)) (k : Lit) : List (Lit × Value) := L.filter (fun p => !p.1.sameKey k)

theorem sameKey_true {a b : Lit} (hb : WideAt.IsKeyLit b) : a.sameKey b = true ↔ a = b :=
  ⟨WideAt.sameKey_eq, fun h => by subst h; exact WideAt.sameKey_self hb⟩

theorem find_some {α : Type} {L : List (Lit × α)} (hp : L.Pairwise (fun p q => p.1 ≠ q.1)) {k : Lit} (hk : WideAt.IsKeyLit k) (p : Lit × α) : L.find? (fun p => p.1.sameKey k) = some p ↔ p ∈ L ∧ p.1 = k := by
  induction L with
  | nil => simp
  | cons q r ih =>
    rw [List.pairwise_cons] at hp
    by_cases hq : q.1.sameKey k = true
    · have hqk := (sameKey_true hk).1 hq
      simp only [List.find?_cons, hq]
      constructor
      · intro h; cases h; exact ⟨by simp, hqk⟩
      · rintro ⟨h, e⟩
        rcases List.mem_cons.1 h with rfl | h
        · rfl
        · exact absurd (hqk.trans e.symm) (hp.1 p h)
    · have hq' : q.1.sameKey k = false := by simpa using hq
      simp only [List.find?_cons, hq', ih hp.2]
      constructor
      · rintro ⟨h, e⟩; exact ⟨by simp [h], e⟩
      · rintro ⟨h, e⟩
        rcases List.mem_cons.1 h with rfl | h
        · exact absurd ((sameKey_true hk).2 e) hq
        · exact ⟨h, e⟩

theorem apart_perm {α : Type} {L L' : List (Lit × α)} (h : L.Perm L') (hp : L.Pairwise (fun p q => p.1 ≠ q.1)) : L'.Pairwise (fun p q => p.1 ≠ q.1) :=
  (h.pairwise_iff fun h => Ne.symm h).1 hp

theorem find_perm {α : Type} {L L' : List (Lit × α)} (h : L.Perm L') (hp : L.Pairwise (fun p q => p.1 ≠ q.1)) {k : Lit} (hk : WideAt.IsKeyLit k) : L.find? (fun p => p.1.sameKey k) = L'.find? (fun p => p.1.sameKey k) := by
  apply Option.ext
  intro p
  rw [find_some hp hk, find_some (apart_perm h hp) hk, h.mem_iff]

theorem apart_map {L : List (Lit × Value)} : (L.map hd).Pairwise (fun p q => p.1 ≠ q.1) ↔ Apart L := by
  unfold Apart; rw [List.pairwise_map]; rfl

theorem find_map (L : List (Lit × Value)) (k : Lit) : (L.map hd).find? (fun p => p.1.sameKey k) = (L.find? (fun p => p.1.sameKey k)).map hd := by
  rw [List.find?_map]; rfl

theorem apart_erase {L : List (Lit × Value)} (h : Apart L) (k : Lit) : Apart (eraseL L k) := List.Pairwise.filter _ h
theorem mem_erase {L : List (Lit × Value)} {k : Lit} (hk : WideAt.IsKeyLit k) {p : Lit × Value} : p ∈ eraseL L k ↔ p ∈ L ∧ p.1 ≠ k := by
  unfold eraseL
  rw [List.mem_filter]
  cases h : p.1.sameKey k
  · simp only [Bool.not_false, and_true]
    exact ⟨fun hm => ⟨hm, fun e => by rw [(sameKey_true hk).2 e] at h; cases h⟩, fun h => h.1⟩
  · simp only [Bool.not_true, Bool.false_eq_true, and_false, false_iff]
    exact fun hm => hm.2 ((sameKey_true hk).1 h)
theorem apart_put {L : List (Lit × Value)} (h : Apart L) {k : Lit} (hk : WideAt.IsKeyLit k) (v : Value) : Apart ((k, v) :: eraseL L k) := by
  unfold Apart
  rw [List.pairwise_cons]
  exact ⟨fun p hp => fun e => ((mem_erase hk).1 hp).2 e.symm, apart_erase h k⟩
theorem length_erase_le (L : List (Lit × Value)) (k : Lit) : (eraseL L k).length ≤ L.length := List.length_filter_le _ _

/-- Block b of w is a map (of keys of type k) with just the entries of L. -/
def MapL (P : Program) (k : TypeId) (w : World) (b : Nat) (L : List (Lit × Value)) : Prop :=
  Apart L ∧ ∃ es, es.Perm (L.map hd) ∧ w.ownsMap P k heldE b L.length (.map es)

section
variable {P : Program} {k : TypeId} {w : World} {b : Nat} {L : List (Lit × Value)}

theorem MapL.apart (h : MapL P k w b L) : Apart L := h.1
theorem MapL.lt (h : MapL P k w b L) : b < w.heap.size := by obtain ⟨_, es, _, ho⟩ := h; exact ho.lt
theorem MapL.obj (h : MapL P k w b L) : ∃ es c, w.heap[b]? = some (.map es c) := by obtain ⟨_, es, _, e, c, hb, _⟩ := h; exact ⟨e, c, hb⟩
theorem MapL.same {w' : World} (h : MapL P k w b L) (e : w'.heap[b]? = w.heap[b]?) : MapL P k w' b L := by
  obtain ⟨ha, es, he, e1, c, hb, r⟩ := h
  exact ⟨ha, es, he, e1, c, e.trans hb, r⟩
theorem MapL.keep {A : Nat → Prop} {w' : World} (h : MapL P k w b L) (hk : Keep A w w') (hA : ¬ A b) : MapL P k w' b L := h.same (hk.block b h.lt hA)
theorem MapL.keys (h : MapL P k w b L) (K : Keyed P k) : ∀ p ∈ L, WideAt.IsKeyLit p.1 := by
  obtain ⟨ha, es, he, ho⟩ := h
  obtain ⟨es', e1, _, hk⟩ := ho.entries K
  cases e1
  intro p hp
  exact hk (hd p) (he.mem_iff.2 (List.mem_map_of_mem hp))
theorem MapL.made (P : Program) (k : TypeId) (w : World) : MapL P k (w.alloc (.map #[] 0)) w.heap.size [] :=
  ⟨List.Pairwise.nil, [], List.Perm.refl _, World.ownsMap_made _ _ _ _⟩

theorem keyLit_of {key : Value} {kl : Lit} (K : Keyed P k) (h : keyOf P k key = some kl) : WideAt.IsKeyLit kl := K.key h

theorem MapL.at (h : MapL P k w b L) {kl : Lit} (hk : WideAt.IsKeyLit kl) : ∃ es, w.ownsMap P k heldE b L.length (.map es) ∧ es.Perm (L.map hd) ∧ (∀ z : Value, (DataW.map es).atKey kl (.held z) = .held ((findL L kl).getD z)) ∧ Maps.has (.map es) kl = (findL L kl).isSome := by
  obtain ⟨ha, es, he, ho⟩ := h
  have e1 : es.find? (fun p => p.1.sameKey kl) = (L.find? (fun p => p.1.sameKey kl)).map hd := by
    rw [← find_map]; exact find_perm he (apart_perm he.symm (apart_map.2 ha)) hk
  refine ⟨es, ho, he, fun z => ?_, ?_⟩
  · unfold DataW.atKey findL
    simp only [e1]
    cases L.find? (fun p => p.1.sameKey kl) <;> simp [hd]
  · have e2 : es.any (fun p => p.1.sameKey kl) = (es.find? (fun p => p.1.sameKey kl)).isSome := by
      rw [Bool.eq_iff_iff, List.find?_isSome, List.any_eq_true]
    rw [Maps.has_eq, e2, e1]
    unfold findL
    cases L.find? (fun p => p.1.sameKey kl) <;> simp

/-- m[k] -/
theorem MapL.lookup {t e : TypeId} (h : MapL P k w b L) (K : Keyed P k) (ht : P.underlying t = some (.map k e)) {z : Value} (hz : (zeroValue e).run P w = .ok z w) {key : Value} {kl : Lit} (hkey : keyOf P k key = some kl) :
    (Instr.lookup t (.map (some b)) key false).run P w = .ok ((findL L kl).getD z) w := by
  obtain ⟨es, ho, _, hat, _⟩ := h.at (keyLit_of K hkey)
  obtain ⟨v, ps, hrun, hv⟩ := ho.lookup K ht hz (zd := .held z) (zp := []) rfl hkey
  rw [hat z] at hv
  cases hv
  exact hrun
/-- v, ok := m[k] -/
theorem MapL.lookup_ok {t e : TypeId} (h : MapL P k w b L) (K : Keyed P k) (ht : P.underlying t = some (.map k e)) {z : Value} (hz : (zeroValue e).run P w = .ok z w) {key : Value} {kl : Lit} (hkey : keyOf P k key = some kl) :
    (Instr.lookup t (.map (some b)) key true).run P w = .ok (.tuple #[(findL L kl).getD z, .bool (findL L kl).isSome]) w := by
  obtain ⟨es, ho, _, hat, hhas⟩ := h.at (keyLit_of K hkey)
  obtain ⟨v, ps, hrun, hv⟩ := ho.look_ok K ht hz (zd := .held z) (zp := []) rfl hkey
  rw [hat z] at hv
  cases hv
  rw [← hhas]
  exact hrun
/-- m[k] = v -/
theorem MapL.store {t e : TypeId} (h : MapL P k w b L) (K : Keyed P k) (ht : P.underlying t = some (.map k e)) (hn : L.length < maxLen) {key v : Value} {kl : Lit} (hkey : keyOf P k key = some kl) :
    ∃ w', (Instr.mapUpdate t (.map (some b)) key v).run P w = .ok () w' ∧ MapL P k w' b ((kl, v) :: eraseL L kl) ∧ Keep (fun j => j = b) w w' ∧ w'.heap.size = w.heap.size := by
  have hkl := keyLit_of K hkey
  obtain ⟨ha, es, he, ho⟩ := h
  obtain ⟨w', hrun, ho', ht'⟩ := ho.store K ht hn hkey (d := .held v) (ps := []) rfl
  have hp : (DataW.insert (kl, .held v) (es.filter fun p => !p.1.sameKey kl)).Perm (((kl, v) :: eraseL L kl).map hd) := by
    refine (WideShapes.insert_perm _ _).trans ?_
    refine List.Perm.cons _ ?_
    have := he.filter (fun p : Lit × DataW Value => !p.1.sameKey kl)
    rw [List.filter_map] at this
    exact this
  have hg := ht'.grown
  refine ⟨w', hrun, ⟨apart_put ha hkl v, _, hp, ?_⟩, (Keep.of_grown hg).mono (fun j _ e => by cases e; rfl), ?_⟩
  · have hs := ho'.size_le
    obtain ⟨es2, c2, hb2, F2, _, e2⟩ := ho'
    refine ⟨es2, c2, hb2, F2, ?_, e2⟩
    have e3 := hp.length_eq
    have e4 : (DataW.insert (kl, DataW.held v) (es.filter fun p => !p.1.sameKey kl)).length = es2.size := by
      have := congrArg (fun D : DataW Value => Maps.size D) e2
      simp only [DataW.put, Maps.size, length_sorted, List.length_map, Array.length_toList] at this
      exact this
    rw [List.length_map] at e3
    omega
  · obtain ⟨es1, c1, es2, c2, _, rfl⟩ := ht'
    simp [setBlock]
/-- delete(m, k) -/
theorem MapL.drop {t e : TypeId} (h : MapL P k w b L) (K : Keyed P k) (ht : P.underlying t = some (.map k e)) {key : Value} {kl : Lit} (hkey : keyOf P k key = some kl) (ty : TypeId) :
    ∃ w', (Builtin.delete_ #[t, k] ty #[.map (some b), key]).run P w = .ok (.tuple #[]) w' ∧ MapL P k w' b (eraseL L kl) ∧ Keep (fun j => j = b) w w' ∧ w'.heap.size = w.heap.size := by
  obtain ⟨ha, es, he, ho⟩ := h
  obtain ⟨w', hrun, ho', ht'⟩ := ho.drop K ht hkey ty
  have hp : (es.filter fun p => !p.1.sameKey kl).Perm ((eraseL L kl).map hd) := by
    have := he.filter (fun p : Lit × DataW Value => !p.1.sameKey kl)
    rw [List.filter_map] at this
    exact this
  have hg := ht'.grown
  refine ⟨w', hrun, ⟨apart_erase ha kl, _, hp, ?_⟩, (Keep.of_grown hg).mono (fun j _ e => by cases e; rfl), ?_⟩
  · obtain ⟨es2, c2, hb2, F2, _, e2⟩ := ho'
    refine ⟨es2, c2, hb2, F2, ?_, e2⟩
    have e3 := hp.length_eq
    have e4 : (es.filter fun p => !p.1.sameKey kl).length = es2.size := by
      have := congrArg (fun D : DataW Value => Maps.size D) e2
      simp only [DataW.del, Maps.size, length_sorted, List.length_map, Array.length_toList] at this
      exact this
    rw [List.length_map] at e3
    omega
  · obtain ⟨es1, c1, es2, c2, _, rfl⟩ := ht'
    simp [setBlock]
theorem MapL.size (h : MapL P k w b L) : ∃ es, w.ownsMap P k heldE b L.length (.map es) ∧ es.Perm (L.map hd) ∧ Maps.size (.map es) = L.length := by
  obtain ⟨_, es, he, ho⟩ := h
  exact ⟨es, ho, he, by rw [Maps.size_eq, he.length_eq, List.length_map]⟩
/-- len(m) -/
theorem MapL.len {t e : TypeId} (h : MapL P k w b L) (ht : P.underlying t = some (.map k e)) (ty : TypeId) : (Builtin.len_ #[t] ty #[.map (some b)]).run P w = .ok (.int .i64 L.length) w := by
  obtain ⟨es, ho, _, hs⟩ := h.size
  rw [ho.len ht ty, hs]

/-- An iterator (block r) over the map of block b; 'todo' is still to come. -/
def RangeL (P : Program) (k : TypeId) (w : World) (b r : Nat) (L todo : List (Lit × Value)) : Prop :=
  Apart L ∧ (∀ p ∈ todo, p ∈ L) ∧ Apart todo ∧ ∃ es left cnt, es.Perm (L.map hd) ∧ w.ranges P k heldE b r L.length (.map es) left cnt ∧ ∀ kl, left kl = true ↔ ∃ v, (kl, v) ∈ todo

theorem RangeL.map {r : Nat} {todo : List (Lit × Value)} (h : RangeL P k w b r L todo) : MapL P k w b L := by
  obtain ⟨ha, _, _, es, left, cnt, he, hr, _⟩ := h
  exact ⟨ha, es, he, hr.owns⟩
theorem RangeL.same {w' : World} {r : Nat} {todo : List (Lit × Value)} (h : RangeL P k w b r L todo) (eb : w'.heap[b]? = w.heap[b]?) (er : w'.heap[r]? = w.heap[r]?) : RangeL P k w' b r L todo := by
  obtain ⟨ha, h1, h2, es, left, cnt, he, hr, h3⟩ := h
  refine ⟨ha, h1, h2, es, left, cnt, he, ?_, h3⟩
  obtain ⟨es1, clock, since, seen, c0, hb, F, hs, e, hrr, rest⟩ := hr
  exact ⟨es1, clock, since, seen, c0, eb.trans hb, F, hs, e, er.trans hrr, rest⟩
theorem RangeL.lt {r : Nat} {todo : List (Lit × Value)} (h : RangeL P k w b r L todo) : r < w.heap.size := by
  obtain ⟨_, _, _, es, left, cnt, _, hr, _⟩ := h; exact hr.lt
theorem RangeL.keep {A : Nat → Prop} {w' : World} {r : Nat} {todo : List (Lit × Value)} (h : RangeL P k w b r L todo) (hk : Keep A w w') (hb : ¬ A b) (hr : ¬ A r) : RangeL P k w' b r L todo :=
  h.same (hk.block b h.map.lt hb) (hk.block r h.lt hr)
/-- range m -/
theorem MapL.range {t e : TypeId} (h : MapL P k w b L) (K : Keyed P k) (ht : P.underlying t = some (.map k e)) :
    ∃ w', (Instr.range t (.map (some b))).run P w = .ok (.pointer (some ⟨w.heap.size, 0, none⟩)) w' ∧ RangeL P k w' b w.heap.size L L ∧ Keep No w w' ∧ w'.heap.size = w.heap.size + 1 := by
  have hkeys := h.keys K
  obtain ⟨ha, es, he, ho⟩ := h
  obtain ⟨w', hrun, hr, hg, hs⟩ := ho.range K ht
  refine ⟨w', hrun, ⟨ha, fun _ h => h, ha, es, _, _, he, hr, fun kl => ?_⟩, (Keep.of_grown hg).mono (fun j _ e => by cases e), hs⟩
  rw [Maps.has_eq, List.any_eq_true]
  constructor
  · rintro ⟨p, hp, hs⟩
    obtain ⟨q, hq, rfl⟩ := List.mem_map.1 (he.mem_iff.1 hp)
    have := WideAt.sameKey_eq hs
    simp only [hd] at this
    subst this
    exact ⟨q.2, hq⟩
  · rintro ⟨v, hv⟩
    exact ⟨hd (kl, v), he.mem_iff.2 (List.mem_map_of_mem hv), WideAt.sameKey_self (hkeys _ hv)⟩
/-- the next entry -/
theorem RangeL.next {r : Nat} {todo : List (Lit × Value)} (h : RangeL P k w b r L todo) (K : Keyed P k) (ty : TypeId) :
    (todo = [] ∧ (Instr.next (.pointer (some ⟨r, 0, none⟩)) false ty).run P w = .ok (.tuple #[.bool false]) w) ∨
    ∃ key v kl w', keyOf P k key = some kl ∧ (kl, v) ∈ todo ∧ (Instr.next (.pointer (some ⟨r, 0, none⟩)) false ty).run P w = .ok (.tuple #[.bool true, key, v]) w' ∧
      RangeL P k w' b r L (eraseL todo kl) ∧ w'.rangeLeft b r < w.rangeLeft b r ∧ Keep (fun j => j = r) w w' ∧ w'.heap.size = w.heap.size ∧ (Instr.entry (.pointer (some ⟨r, 0, none⟩))).run P w' = .ok (.tuple #[key, v]) w' := by
  have hkeys := h.map.keys K
  obtain ⟨ha, h1, h2, es, left, cnt, he, hr, h3⟩ := h
  rcases hr.next K ty with ⟨h0, hl, hrun⟩ | ⟨key, v, kl, y, w', cnt', hkey, hlk, hRv, hat, hrun, hr', hlt, hg, hs, hen⟩
  · refine .inl ⟨?_, hrun⟩
    cases todo with
    | nil => rfl
    | cons p r =>
      have := (h3 p.1).2 ⟨p.2, by simp⟩
      rw [hl] at this; cases this
  · refine .inr ⟨key, v, kl, w', hkey, ?_⟩
    cases hRv
    have hkl := keyLit_of K hkey
    obtain ⟨v', hv'⟩ := (h3 kl).1 hlk
    have hm := h1 _ hv'
    have hfind : es.find? (fun p => p.1.sameKey kl) = some (hd (kl, v')) :=
      (find_some (apart_perm he.symm (apart_map.2 ha)) hkl _).2 ⟨he.mem_iff.2 (List.mem_map_of_mem hm), rfl⟩
    have := hat (.held (.bool false))
    unfold DataW.atKey at this
    simp only [hfind, hd] at this
    cases this
    refine ⟨hv', hrun, ⟨ha, fun p hp => h1 p ((mem_erase hkl).1 hp).1, apart_erase h2 kl, es, _, _, he, hr', fun kl' => ?_⟩, by rw [hr'.left_eq, hr.left_eq]; exact hlt, (Keep.of_grown hg).mono (fun j _ e => by cases e; rfl), hs, hen⟩
    rw [Bool.and_eq_true, h3]
    constructor
    · rintro ⟨⟨v2, hv2⟩, hne⟩
      refine ⟨v2, (mem_erase hkl).2 ⟨hv2, fun e => ?_⟩⟩
      simp only at e
      subst e
      rw [WideAt.sameKey_self hkl] at hne; cases hne
    · rintro ⟨v2, hv2⟩
      obtain ⟨h4, h5⟩ := (mem_erase hkl).1 hv2
      exact ⟨⟨v2, h4⟩, by rw [Maps.sameKey_ne h5]; rfl⟩

theorem rg_lookup {t e : TypeId} (h : MapL P k w b L) (K : Keyed P k) (ht : P.underlying t = some (.map k e)) {z : Value} (hz : (zeroValue e).run P w = .ok z w) {key : Value} {kl : Lit} (hkey : keyOf P k key = some kl) {G : Value → World → Prop}
    (hk : G ((findL L kl).getD z) w) : LookupGoal P t (.map (some b)) key false w G := .mk (h.lookup K ht hz hkey) hk
theorem rg_lookup_ok {t e : TypeId} (h : MapL P k w b L) (K : Keyed P k) (ht : P.underlying t = some (.map k e)) {z : Value} (hz : (zeroValue e).run P w = .ok z w) {key : Value} {kl : Lit} (hkey : keyOf P k key = some kl) {G : Value → World → Prop}
    (hk : G (.tuple #[(findL L kl).getD z, .bool (findL L kl).isSome]) w) : LookupGoal P t (.map (some b)) key true w G := .mk (h.lookup_ok K ht hz hkey) hk
theorem rg_store {t e : TypeId} (h : MapL P k w b L) (K : Keyed P k) (ht : P.underlying t = some (.map k e)) (hn : L.length < maxLen) {key v : Value} {kl : Lit} (hkey : keyOf P k key = some kl) {G : World → Prop}
    (hk : ∀ w', MapL P k w' b ((kl, v) :: eraseL L kl) → Keep (fun j => j = b) w w' → w'.heap.size = w.heap.size → G w') : UpdateGoal P t (.map (some b)) key v w G := by
  obtain ⟨w', hr, h1, h2, h3⟩ := h.store K ht hn (v := v) hkey
  exact .mk hr (hk w' h1 h2 h3)
theorem rg_len {t e : TypeId} (h : MapL P k w b L) (ht : P.underlying t = some (.map k e)) {ty : TypeId} {G : Value → World → Prop} (hk : G (.int .i64 L.length) w) : LenGoal P t ty (.map (some b)) w G := .mk (h.len ht ty) hk
theorem rg_range {t e : TypeId} (h : MapL P k w b L) (K : Keyed P k) (ht : P.underlying t = some (.map k e)) {G : Value → World → Prop}
    (hk : ∀ w', RangeL P k w' b w.heap.size L L → Keep No w w' → w'.heap.size = w.heap.size + 1 → G (.pointer (some ⟨w.heap.size, 0, none⟩)) w') : RangeGoal P t (.map (some b)) w G := by
  obtain ⟨w', hr, h1, h2, h3⟩ := h.range K ht
  exact .mk hr (hk w' h1 h2 h3)
theorem rg_next {r : Nat} {todo : List (Lit × Value)} (h : RangeL P k w b r L todo) (K : Keyed P k) {ty : TypeId} {G : Value → World → Prop}
    (h0 : todo = [] → G (.tuple #[.bool false]) w)
    (h1 : ∀ key v kl w', keyOf P k key = some kl → (kl, v) ∈ todo → RangeL P k w' b r L (eraseL todo kl) → w'.rangeLeft b r < w.rangeLeft b r → Keep (fun j => j = r) w w' → w'.heap.size = w.heap.size →
      (Instr.entry (.pointer (some ⟨r, 0, none⟩))).run P w' = .ok (.tuple #[key, v]) w' → G (.tuple #[.bool true, key, v]) w') : NextGoal P (.pointer (some ⟨r, 0, none⟩)) false ty w G := by
  rcases h.next K ty with ⟨e, hr⟩ | ⟨key, v, kl, w', a1, a2, a3, a4, a5, a6, a7, a8⟩
  · exact .mk hr (h0 e)
  · exact .mk a3 (h1 key v kl w' a1 a2 a4 a5 a6 a7 a8)
end
end Go.Dm
namespace Go.Dm
open Go Go.RowKit
section
variable {P : Program} {w : World} {ops : Array Oper} {rest : List Oper} {o : Oper} {a : Act} {Q : Exit → Act → World → Prop}
theorem wl_insert (hgd : o.guard = none) (m x v : Operand) (t : TypeId) (ho : o.op = Op.insert t m x v) (v1 v2 v3 : Value) (h1 : a.eval m = v1) (h2 : a.eval x = v2) (h3 : a.eval v = v3)
    (h : UpdateGoal P t v1 v2 v3 w fun w' => wpList P ops Q rest (a.put o.dst undef) w') : wpList P ops Q (o :: rest) a w := by
  obtain ⟨v, w', hr, hk⟩ := h
  refine wpList_plain hgd fun K hK => ?_
  unfold Oper.wp
  simp [execOp, ho, h1, h2, h3, hr, Result.andThen]
  exact hK _ _ hk
theorem wl_lookupg (hgd : Region.wanted o (yielded ops a.tmps) = true) (m x : Operand) (t : TypeId) (c : Bool) (ho : o.op = Op.lookup t m x c) (v1 v2 : Value) (h1 : a.eval m = v1) (h2 : a.eval x = v2)
    (h : LookupGoal P t v1 v2 c w fun v w' => wpList P ops Q rest (a.put o.dst v) w') : wpList P ops Q (o :: rest) a w := by
  obtain ⟨v, w', hr, hk⟩ := h
  unfold wpList
  rw [if_pos hgd]
  refine .inl ?_
  unfold Oper.wp
  simp [execOp, ho, h1, h2, hr, Result.andThen]
  exact hk
end
end Go.Dm
namespace Go.Dm
open Go Go.RowKit Go.Maps Go.ChangeMaps
section
variable {P : Program} {k : TypeId} {w : World} {b : Nat} {L : List (Lit × Value)}
theorem RangeL.drop {t e : TypeId} {r : Nat} {todo : List (Lit × Value)} (h : RangeL P k w b r L todo) (K : Keyed P k) (ht : P.underlying t = some (.map k e)) {key : Value} {kl : Lit} (hkey : keyOf P k key = some kl) (ty : TypeId) :
    ∃ w', (Builtin.delete_ #[t, k] ty #[.map (some b), key]).run P w = .ok (.tuple #[]) w' ∧ RangeL P k w' b r (eraseL L kl) (eraseL todo kl) ∧ Keep (fun j => j = b) w w' ∧ w'.heap.size = w.heap.size ∧ w'.rangeLeft b r ≤ w.rangeLeft b r := by
  have hkl := keyLit_of K hkey
  obtain ⟨ha, h1, h2, es, left, cnt, he, hr, h3⟩ := h
  obtain ⟨w', cnt', hrun, hr', hc, ht'⟩ := hr.drop K ht hkey ty
  have hp : (es.filter fun p => !p.1.sameKey kl).Perm ((eraseL L kl).map hd) := by
    have := he.filter (fun p : Lit × DataW Value => !p.1.sameKey kl)
    rw [List.filter_map] at this
    exact this
  have hg := ht'.grown
  refine ⟨w', hrun, ⟨apart_erase ha kl, ?_, apart_erase h2 kl, _, fun z => left z && !z.sameKey kl, cnt', hp, ?_, ?_⟩, (Keep.of_grown hg).mono (fun j _ e => by cases e; rfl), ?_, ?_⟩
  · intro p hp
    obtain ⟨a1, a2⟩ := (mem_erase hkl).1 hp
    exact (mem_erase hkl).2 ⟨h1 p a1, a2⟩
  · obtain ⟨es2, clock, since, seen, c0, hb, F, hs, hD, rest⟩ := hr'
    refine ⟨es2, clock, since, seen, c0, hb, F, ?_, hD, rest⟩
    have e3 := hp.length_eq
    have e4 : (es.filter fun p => !p.1.sameKey kl).length = es2.size := by
      have := congrArg (fun D : DataW Value => Maps.size D) hD
      simp only [DataW.del, Maps.size, length_sorted, List.length_map, Array.length_toList] at this
      exact this
    rw [List.length_map] at e3
    omega
  · intro kl'
    rw [Bool.and_eq_true, h3]
    constructor
    · rintro ⟨⟨v2, hv2⟩, hne⟩
      refine ⟨v2, (mem_erase hkl).2 ⟨hv2, fun e => ?_⟩⟩
      simp only at e
      subst e
      rw [WideAt.sameKey_self hkl] at hne; cases hne
    · rintro ⟨v2, hv2⟩
      obtain ⟨h4, h5⟩ := (mem_erase hkl).1 hv2
      exact ⟨⟨v2, h4⟩, by rw [Maps.sameKey_ne h5]; rfl⟩
  · obtain ⟨es1, c1, es2, c2, _, rfl⟩ := ht'
    simp [setBlock]
  · rw [hr'.left_eq, hr.left_eq]; exact hc
theorem rg_delete_range {t e : TypeId} {r : Nat} {todo : List (Lit × Value)} (h : RangeL P k w b r L todo) (K : Keyed P k) (ht : P.underlying t = some (.map k e)) {key : Value} {kl : Lit} (hkey : keyOf P k key = some kl) {ty : TypeId} {G : Value → World → Prop}
    (hk : ∀ w', RangeL P k w' b r (eraseL L kl) (eraseL todo kl) → Keep (fun j => j = b) w w' → w'.heap.size = w.heap.size → w'.rangeLeft b r ≤ w.rangeLeft b r → G (.tuple #[]) w') : DeleteGoal P t k ty (.map (some b)) key w G := by
  obtain ⟨w', hr, h1, h2, h3, h4⟩ := h.drop K ht hkey ty
  exact .mk hr (hk w' h1 h2 h3 h4)
end
end Go.Dm
