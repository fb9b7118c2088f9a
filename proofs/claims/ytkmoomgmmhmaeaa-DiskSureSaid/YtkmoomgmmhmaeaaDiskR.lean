/- How a disk of the program lies in memory (DRep), and that it stays while other memory is turned. No condition. -/
import Derived.Test.YtkmoomgmmhmaeaaProg
import Derived.Test.YtkmoomgmmhmaeaaMapL
import Derived.Test.YtkmoomgmmhmaeaaDiskM
namespace Go.Proofs.Ytkmoomgmmhmaeaa
open Go.RowKit Go.Dm Go.Dm.Dk


/-- bytes of the disk's own: their row bears the type of bytes -/
def DB (A : Nat → Prop) (w : World) (v : Value) (l : List UInt8) : Prop := Bts (fun k => A k ∧ ∃ cs fr, w.heap[k]? = some (.cells cs 5 fr)) w v l

theorem DB.same {A : Nat → Prop} {w w' : World} {v : Value} {l : List UInt8} (h : DB A w v l) (hs : w.heap.size ≤ w'.heap.size)
    (e : ∀ k, k < w.heap.size → A k → (∃ cs fr, w.heap[k]? = some (.cells cs 5 fr)) → w'.heap[k]? = w.heap[k]?) : DB A w' v l := by
  have h1 := Sl.same h hs fun k hk ha => e k hk ha.1 ha.2
  exact Sl.mono (B := fun k => A k ∧ ∃ cs fr, w'.heap[k]? = some (.cells cs 5 fr)) (Sl.mono (B := fun k => (A k ∧ ∃ cs fr, w.heap[k]? = some (.cells cs 5 fr)) ∧ k < w.heap.size) h1 (fun k hk ha => ⟨ha, by
    obtain ⟨_, cs, fr, h⟩ := ha; exact (Array.getElem?_eq_some_iff.1 h).1⟩)) fun k _ ⟨⟨a, cs, fr, h⟩, hl⟩ => ⟨a, cs, fr, (e k hl a ⟨cs, fr, h⟩).trans h⟩
theorem DB.mono {A B : Nat → Prop} {w : World} {v : Value} {l : List UInt8} (h : DB A w v l) (hab : ∀ k, k < w.heap.size → A k → B k) : DB B w v l := Sl.mono h fun k hk ha => ⟨hab k hk ha.1, ha.2⟩
theorem DB.nil (A : Nat → Prop) (w : World) : DB A w (.slice none 0 0) [] := Sl.nil _ _ _
theorem DB.bts {A : Nat → Prop} {w : World} {v : Value} {l : List UInt8} (h : DB A w v l) : Bts A w v l := Sl.mono h fun _ _ ha => ha.1
theorem DB.blk {w : World} {g : Nat} {l : List UInt8} (h : Blk w g (l.map bv).toArray 5) (hm : l.length ≤ maxLen) : DB (fun k => k = g) w (.slice (some ⟨g, 0, none⟩) l.length l.length) l :=
  Sl.mono (Bts.of_blk h hm) fun k _ e => ⟨e, (l.map bv).toArray, (0, 0), by have e : k = g := e; subst e; exact h⟩

def ptrTo (b : Nat) : Value := .pointer (some ⟨b, 0, none⟩)
def fptr (fb : List Nat) (i : Nat) : Value := ptrTo (fb.getD i 0)
def NL (fb : List Nat) (L : Names) : List (Lit × Value) := L.map fun p => (.string p.1, fptr fb p.2)

/-- the closure of a change of names -/
def NameFn (A : Nat → Prop) (w : World) (fb : List Nat) (o : Dk.Op) (c : Value) : Prop :=
  ∃ x y, A x ∧ A y ∧ (
    (o.kind = 2 ∧ c = .func (.func 37) #[] #[ptrTo x, ptrTo y] ∧ Blk w x #[fptr fb o.file] 64 ∧ Blk w y #[.string ⟨o.to.toArray⟩] 9) ∨
    (o.kind = 3 ∧ c = .func (.func 53) #[] #[ptrTo x, ptrTo y] ∧ Blk w x #[.string ⟨o.frm.toArray⟩] 9 ∧ Blk w y #[.string ⟨o.to.toArray⟩] 9) ∨
    (o.kind = 4 ∧ c = .func (.func 56) #[] #[ptrTo x] ∧ Blk w x #[.string ⟨o.frm.toArray⟩] 9))

/-- one pending operation, as its four cells -/
def PendAt (A : Nat → Prop) (w : World) (fb : List Nat) (o : Dk.Op) (cs : List Value) : Prop :=
  (o.kind = 1 ∧ ∃ v, cs = [fptr fb o.file, .int .i64 o.at_, v, .nilFunc] ∧ DB A w v o.b) ∨
  (∃ c, cs = [.pointer none, .int .i64 0, .slice none 0 0, c] ∧ NameFn A w fb o c)

/-- one file -/
def FileAt (A : Nat → Prop) (w : World) (b : Nat) (is sure : List UInt8) : Prop :=
  ∃ v1 v2, Blk w b #[v1, v2] 67 ∧ DB A w v1 is ∧ DB A w v2 sure

def Live (m : M) (i : Nat) : Prop := (∃ s, (s, i) ∈ m.L) ∨ (∃ s, (s, i) ∈ m.S) ∨ ∃ o ∈ m.wait, (o.kind = 1 ∨ o.kind = 2) ∧ o.file = i

structure DRep (A : Nat → Prop) (w : World) (d : Nat) (m : M) (fb : List Nat) (nb sb : Nat) (wv : Value) (rows : List (List Value)) : Prop where
  blk : Blk w d #[.int .i64 m.room, .map (some nb), .map (some sb), wv, .bool m.off, .int .i64 m.cut] 62
  nm : MapL Try.prog 9 w nb (NL fb m.L)
  sm : MapL Try.prog 9 w sb (NL fb m.S)
  ne : nb ≠ sb
  row : w.ownsRow 0 73 4 wv m.wait.length rows.flatten
  rowA : ∀ g, wv.ownBlock = some g → A g
  rlen : rows.length = m.wait.length
  pend : ∀ (i : Nat) (o : Dk.Op), m.wait[i]? = some o → ∃ cs : List Value, rows[i]? = some cs ∧ PendAt A w fb o cs
  fl : fb.length = m.is.length
  sl : m.sure.length = m.is.length
  nd : fb.Nodup
  fbl : ∀ b ∈ fb, b < w.heap.size
  file : ∀ i, Live m i → i < m.is.length ∧ A (fb.getD i 0) ∧ FileAt A w (fb.getD i 0) (m.is.getD i []) (m.sure.getD i [])
  Ad : A d
  An : A nb
  As : A sb

/-- a disk of the program -/
def DR (A : Nat → Prop) (w : World) (d : Nat) (m : M) : Prop := ∃ fb nb sb wv rows, DRep A w d m fb nb sb wv rows

theorem NameFn.same {A : Nat → Prop} {w w' : World} {fb : List Nat} {o : Dk.Op} {c : Value} (h : NameFn A w fb o c)
    (e : ∀ k, A k → (∃ cs fr, w.heap[k]? = some (.cells cs 64 fr) ∨ w.heap[k]? = some (.cells cs 9 fr)) → w'.heap[k]? = w.heap[k]?) : NameFn A w' fb o c := by
  obtain ⟨x, y, ax, ay, h⟩ := h
  refine ⟨x, y, ax, ay, ?_⟩
  rcases h with ⟨hk, hc, hx, hy⟩ | ⟨hk, hc, hx, hy⟩ | ⟨hk, hc, hx⟩
  · exact .inl ⟨hk, hc, hx.same (e x ax ⟨_, _, .inl hx⟩), hy.same (e y ay ⟨_, _, .inr hy⟩)⟩
  · exact .inr (.inl ⟨hk, hc, hx.same (e x ax ⟨_, _, .inr hx⟩), hy.same (e y ay ⟨_, _, .inr hy⟩)⟩)
  · exact .inr (.inr ⟨hk, hc, hx.same (e x ax ⟨_, _, .inr hx⟩)⟩)
theorem NameFn.mono {A B : Nat → Prop} {w : World} {fb : List Nat} {o : Dk.Op} {c : Value} (h : NameFn A w fb o c) (hab : ∀ k, k < w.heap.size → A k → B k) : NameFn B w fb o c := by
  obtain ⟨x, y, ax, ay, h⟩ := h
  rcases h with ⟨hk, hc, hx, hy⟩ | ⟨hk, hc, hx, hy⟩ | ⟨hk, hc, hx⟩
  · exact ⟨x, y, hab x hx.lt ax, hab y hy.lt ay, .inl ⟨hk, hc, hx, hy⟩⟩
  · exact ⟨x, y, hab x hx.lt ax, hab y hy.lt ay, .inr (.inl ⟨hk, hc, hx, hy⟩)⟩
  · exact ⟨x, x, hab x hx.lt ax, hab x hx.lt ax, .inr (.inr ⟨hk, hc, hx⟩)⟩
theorem PendAt.same {A : Nat → Prop} {w w' : World} {fb : List Nat} {o : Dk.Op} {cs : List Value} (h : PendAt A w fb o cs) (hs : w.heap.size ≤ w'.heap.size)
    (e : ∀ k, A k → (∃ cs fr t, w.heap[k]? = some (.cells cs t fr) ∧ (t = 64 ∨ t = 9 ∨ t = 5)) → w'.heap[k]? = w.heap[k]?) : PendAt A w' fb o cs := by
  rcases h with ⟨hk, v, hc, hb⟩ | ⟨c, hc, hf⟩
  · exact .inl ⟨hk, v, hc, hb.same hs fun k _ ha ⟨cs, fr, h⟩ => e k ha ⟨cs, fr, _, h, by simp⟩⟩
  · refine .inr ⟨c, hc, hf.same fun k ha h => ?_⟩
    obtain ⟨cs, fr, h | h⟩ := h
    · exact e k ha ⟨cs, fr, _, h, by simp⟩
    · exact e k ha ⟨cs, fr, _, h, by simp⟩
theorem PendAt.mono {A B : Nat → Prop} {w : World} {fb : List Nat} {o : Dk.Op} {cs : List Value} (h : PendAt A w fb o cs) (hab : ∀ k, k < w.heap.size → A k → B k) : PendAt B w fb o cs := by
  rcases h with ⟨hk, v, hc, hb⟩ | ⟨c, hc, hf⟩
  · exact .inl ⟨hk, v, hc, hb.mono hab⟩
  · exact .inr ⟨c, hc, hf.mono hab⟩
theorem FileAt.same {A : Nat → Prop} {w w' : World} {b : Nat} {is sure : List UInt8} (h : FileAt A w b is sure) (hs : w.heap.size ≤ w'.heap.size) (hb : w'.heap[b]? = w.heap[b]?)
    (e : ∀ k, k < w.heap.size → A k → (∃ cs fr, w.heap[k]? = some (.cells cs 5 fr)) → w'.heap[k]? = w.heap[k]?) : FileAt A w' b is sure := by
  obtain ⟨v1, v2, h, h1, h2⟩ := h
  exact ⟨v1, v2, h.same hb, h1.same hs e, h2.same hs e⟩
theorem FileAt.mono {A B : Nat → Prop} {w : World} {b : Nat} {is sure : List UInt8} (h : FileAt A w b is sure) (hab : ∀ k, k < w.heap.size → A k → B k) : FileAt B w b is sure := by
  obtain ⟨v1, v2, h, h1, h2⟩ := h
  exact ⟨v1, v2, h, h1.mono hab, h2.mono hab⟩

theorem ownsRow_same {w w' : World} {base e size n : Nat} {v : Value} {xs : List Value} (h : w.ownsRow base e size v n xs) (hs : ∀ g, v.ownBlock = some g → w'.heap[g]? = w.heap[g]?) : w'.ownsRow base e size v n xs := by
  refine ⟨h.1, h.2.imp id ?_⟩
  rintro ⟨g, cap, cur, rfl, a, b, r⟩
  exact ⟨g, cap, cur, rfl, a, (hs g rfl).trans b, r⟩

theorem DRep.same {A : Nat → Prop} {w w' : World} {d : Nat} {m : M} {fb : List Nat} {nb sb : Nat} {wv : Value} {rows : List (List Value)} (h : DRep A w d m fb nb sb wv rows) (hs : w.heap.size ≤ w'.heap.size)
    (e : ∀ k, A k → w'.heap[k]? = w.heap[k]?) : DRep A w' d m fb nb sb wv rows where
  blk := h.blk.same (e d h.Ad)
  nm := h.nm.same (e nb h.An)
  sm := h.sm.same (e sb h.As)
  ne := h.ne
  row := ownsRow_same h.row fun g hg => e g (h.rowA g hg)
  rowA := h.rowA
  rlen := h.rlen
  pend := fun i o ho => by
    obtain ⟨cs, h1, h2⟩ := h.pend i o ho
    exact ⟨cs, h1, h2.same hs fun k ha _ => e k ha⟩
  fl := h.fl
  sl := h.sl
  nd := h.nd
  fbl := fun b hb => Nat.lt_of_lt_of_le (h.fbl b hb) hs
  file := fun i hi => by
    obtain ⟨h1, h2, h3⟩ := h.file i hi
    exact ⟨h1, h2, h3.same hs (e _ h2) fun k _ ha _ => e k ha⟩
  Ad := h.Ad
  An := h.An
  As := h.As
theorem DR.same {A : Nat → Prop} {w w' : World} {d : Nat} {m : M} (h : DR A w d m) (hs : w.heap.size ≤ w'.heap.size) (e : ∀ k, A k → w'.heap[k]? = w.heap[k]?) : DR A w' d m := by
  obtain ⟨fb, nb, sb, wv, rows, h⟩ := h
  exact ⟨fb, nb, sb, wv, rows, h.same hs e⟩
theorem DR.keep {A S : Nat → Prop} {w w' : World} {d : Nat} {m : M} (h : DR A w d m) (hA : ∀ k, A k → k < w.heap.size) (hk : Keep S w w') (hS : ∀ k, A k → ¬ S k) : DR A w' d m :=
  h.same hk.size fun k ha => hk.block k (hA k ha) (hS k ha)
theorem DRep.mono {A B : Nat → Prop} {w : World} {d : Nat} {m : M} {fb : List Nat} {nb sb : Nat} {wv : Value} {rows : List (List Value)} (h : DRep A w d m fb nb sb wv rows) (hab : ∀ k, k < w.heap.size → A k → B k) : DRep B w d m fb nb sb wv rows where
  blk := h.blk
  nm := h.nm
  sm := h.sm
  ne := h.ne
  row := h.row
  rowA := fun g hg => hab g (h.row.lt g hg).2 (h.rowA g hg)
  rlen := h.rlen
  pend := fun i o ho => by
    obtain ⟨cs, h1, h2⟩ := h.pend i o ho
    exact ⟨cs, h1, h2.mono hab⟩
  fl := h.fl
  sl := h.sl
  nd := h.nd
  fbl := h.fbl
  file := fun i hi => by
    obtain ⟨h1, h2, h3⟩ := h.file i hi
    obtain ⟨v1, v2, h4, h5⟩ := h3
    exact ⟨h1, hab _ h4.lt h2, v1, v2, h4, h5.1.mono hab, h5.2.mono hab⟩
  Ad := hab _ h.blk.lt h.Ad
  An := hab _ h.nm.lt h.An
  As := hab _ h.sm.lt h.As
theorem DR.mono {A B : Nat → Prop} {w : World} {d : Nat} {m : M} (h : DR A w d m) (hab : ∀ k, k < w.heap.size → A k → B k) : DR B w d m := by
  obtain ⟨fb, nb, sb, wv, rows, h⟩ := h
  exact ⟨fb, nb, sb, wv, rows, h.mono hab⟩

/-- a map's view of names -/
theorem findL_NL (fb : List Nat) (L : Names) (s : List UInt8) : findL (NL fb L) (.string s) = (find L s).map (fptr fb) := by
  unfold findL NL find
  rw [List.find?_map, Option.map_map, Option.map_map]
  have e : ((fun p : Lit × Value => p.1.sameKey (.string s)) ∘ fun p : List UInt8 × Nat => ((Lit.string p.1, fptr fb p.2) : Lit × Value)) = fun p => p.1 == s := by
    funext p; simp [Lit.sameKey]
  rw [e]; rfl
theorem eraseL_NL (fb : List Nat) (L : Names) (s : List UInt8) : eraseL (NL fb L) (.string s) = NL fb (without L s) := by
  unfold eraseL NL without
  rw [List.filter_map]
  congr 1
theorem putL_NL (fb : List Nat) (L : Names) (s : List UInt8) (i : Nat) : ((Lit.string s, fptr fb i) :: eraseL (NL fb L) (.string s)).Perm (NL fb (withN L s i)) := by
  rw [eraseL_NL]
  unfold withN NL
  rw [List.map_append]
  exact (List.perm_append_singleton _ _).symm
theorem apart_names {fb : List Nat} {L : Names} (h : Apart (NL fb L)) : L.Pairwise (fun p q => p.1 ≠ q.1) := by
  unfold Apart NL at h
  rw [List.pairwise_map] at h
  exact h.imp fun h e => h (by rw [e])
theorem own_ne {w : World} {base e size n d : Nat} {v : Value} {xs : List Value} {cs : Array Value} {t : TypeId} (h : w.ownsRow base e size v n xs) (hd : Blk w d cs t) (ht : t ≠ e) : ¬ some d = v.ownBlock := by
  intro hg
  rcases h.2 with ⟨rfl, _⟩ | ⟨g, cap, cur, rfl, _, hb, _⟩
  · cases hg
  · cases hg
    rw [hd] at hb
    cases hb
    exact ht rfl
theorem own_ne_map {w : World} {base e size n b : Nat} {v : Value} {xs : List Value} {P : Program} {k : TypeId} {L : List (Lit × Value)} (h : w.ownsRow base e size v n xs) (hd : MapL P k w b L) : ¬ v.ownBlock = some b := by
  intro hg
  rcases h.2 with ⟨rfl, _⟩ | ⟨g, cap, cur, rfl, _, hb, _⟩
  · cases hg
  · cases hg
    obtain ⟨es, c, e⟩ := hd.obj
    rw [e] at hb
    cases hb

end Go.Proofs.Ytkmoomgmmhmaeaa
