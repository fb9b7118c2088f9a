/- Sorting by parts, in plain arrays: what a partition leaves (PtI, PartOk), and that sorted parts make a sorted whole (Inv). No condition. -/
import Derived.Test.YthfekjnekaecaaaDoorSortK
import Derived.Sort.Lot0
set_option linter.unusedVariables false
set_option linter.unusedSimpArgs false
namespace Go.Proofs.YthfekjnekaecaaaDoor
open Go.Dm
/-- while a row is parted: left of i all go left (p), behind j none does -/
structure PtI (p : Nat → Bool) (a b : Nat) (D E : Array Nat) (i j : Nat) : Prop where
  perm : Sort.PermIn a b D E
  ai : a < i
  ij : i ≤ j + 1
  jb : j < b
  lo : ∀ t, a < t → t < i → p E[t]! = true
  hi : ∀ t, j < t → t < b → p E[t]! = false
theorem swp_at (E : Array Nat) {i j : Nat} (hi : i < E.size) (hj : j < E.size) (t : Nat) : (Sort.swp E i j)[t]! = if t = j then E[i]! else if t = i then E[j]! else E[t]! := by
  by_cases h1 : t = j
  · subst h1; rw [if_pos rfl]; exact Sort.swp_right E i t hj
  · rw [if_neg h1]
    by_cases h2 : t = i
    · subst h2; rw [if_pos rfl]; exact Sort.swp_left E t j hi h1
    · rw [if_neg h2]; exact Sort.swp_other E i j t h2 h1
section
variable {p : Nat → Bool} {a b i j : Nat} {D E : Array Nat}
theorem PtI.up (h : PtI p a b D E i j) (hle : i ≤ j) (hp : p E[i]! = true) : PtI p a b D E (i + 1) j :=
  ⟨h.perm, by have := h.ai; omega, by omega, h.jb, fun t h1 h2 => by
    rcases Nat.lt_or_ge t i with h3 | h3
    · exact h.lo t h1 h3
    · obtain rfl : t = i := by omega
      exact hp, h.hi⟩
theorem PtI.down (h : PtI p a b D E i j) (hle : i ≤ j) (hp : p E[j]! = false) : PtI p a b D E i (j - 1) :=
  ⟨h.perm, h.ai, by have := h.ai; omega, by have := h.jb; omega, h.lo, fun t h1 h2 => by
    rcases Nat.lt_or_ge j t with h3 | h3
    · exact h.hi t h3 h2
    · obtain rfl : t = j := by have := h.ai; omega
      exact hp⟩
theorem PtI.swap (h : PtI p a b D E i j) (hle : i ≤ j) (hb : b ≤ D.size) (h1 : p E[i]! = false) (h2 : p E[j]! = true) : i < j ∧ PtI p a b D (Sort.swp E i j) (i + 1) (j - 1) := by
  have hai := h.ai
  have hjb := h.jb
  have hs := h.perm.1
  have hne : i < j := by
    rcases Nat.eq_or_lt_of_le hle with e | e
    · subst e; rw [h1] at h2; cases h2
    · exact e
  have hat := swp_at E (i := i) (j := j) (by omega) (by omega)
  refine ⟨hne, Sort.permIn_trans _ _ _ _ _ h.perm (Sort.swp_permIn E a b i j (by omega) (by omega) (by omega) (by omega) (by omega)), by omega, by omega, by omega, fun t k1 k2 => ?_, fun t k1 k2 => ?_⟩
  · rw [hat, if_neg (by omega)]
    split
    · exact h2
    · exact h.lo t k1 (by omega)
  · rw [hat]
    split
    · exact h1
    · rw [if_neg (by omega)]; exact h.hi t (by omega) k2
theorem PtI.start (hab : a < b) {q : Nat} (h1 : a ≤ q) (h2 : q < b) (hb : b ≤ D.size) : PtI p a b D (Sort.swp D a q) (a + 1) (b - 1) :=
  ⟨Sort.swp_permIn D a b a q (Nat.le_refl _) hab h1 h2 hb, by omega, by omega, by omega, fun t k1 k2 => by omega, fun t k1 k2 => by omega⟩
end
/-- parted at m: what is smaller stands ahead of it -/
structure PartOk (a b m : Nat) (D E : Array Nat) : Prop where
  perm : Sort.PermIn a b D E
  am : a ≤ m
  mb : m < b
  lo : ∀ t, a ≤ t → t < m → E[t]! < E[m]!
  hi : ∀ t, m < t → t < b → E[m]! ≤ E[t]!
theorem PtI.fin {a b i j v : Nat} {D E : Array Nat} (h : PtI (fun x => ltN x v) a b D E i j) (hb : b ≤ D.size) (hv : E[a]! = v) (hij : j < i) : PartOk a b j D (Sort.swp E j a) := by
  have hai := h.ai
  have hjb := h.jb
  have hle := h.ij
  have hs := h.perm.1
  have hat := swp_at E (i := j) (j := a) (by omega) (by omega)
  have hlo := h.lo
  have hhi := h.hi
  simp only [ltN, decide_eq_true_eq, decide_eq_false_iff_not] at hlo hhi
  have hj : (Sort.swp E j a)[j]! = v := by
    rw [hat]
    by_cases e : j = a
    · rw [if_pos e, e]; exact hv
    · rw [if_neg e, if_pos rfl]; exact hv
  refine ⟨Sort.permIn_trans _ _ _ _ _ h.perm (Sort.swp_permIn E a b j a (by omega) (by omega) (Nat.le_refl _) (by omega) (by omega)), by omega, hjb, fun t k1 k2 => ?_, fun t k1 k2 => ?_⟩
  · rw [hj, hat]
    split
    · exact hlo j (by omega) (by omega)
    · rw [if_neg (by omega)]; exact hlo t (by omega) (by omega)
  · rw [hj, hat, if_neg (by omega), if_neg (by omega)]
    have := hhi t k1 k2
    omega
/-- parted into what is not greater, and what is -/
structure PeqOk (a b m v : Nat) (D E : Array Nat) : Prop where
  perm : Sort.PermIn a b D E
  am : a < m
  mb : m ≤ b
  lo : ∀ t, a ≤ t → t < m → E[t]! ≤ v
  hi : ∀ t, m ≤ t → t < b → v < E[t]!
theorem PtI.finq {a b i j v : Nat} {D E : Array Nat} (h : PtI (fun x => !ltN v x) a b D E i j) (hv : E[a]! = v) (hij : j < i) : PeqOk a b i v D E := by
  have hai := h.ai
  have hjb := h.jb
  have hle := h.ij
  have hlo := h.lo
  have hhi := h.hi
  simp only [ltN, Bool.not_eq_true', Bool.not_eq_false', decide_eq_true_eq, decide_eq_false_iff_not] at hlo hhi
  refine ⟨h.perm, hai, by omega, fun t k1 k2 => ?_, fun t k1 k2 => ?_⟩
  · rcases Nat.eq_or_lt_of_le k1 with e | e
    · subst e; omega
    · have := hlo t e k2; omega
  · exact hhi t (by omega) k2
/-- sorted between a and b -/
def Srt (a b : Nat) (E : Array Nat) : Prop := ∀ i j, a ≤ i → i < j → j < b → E[i]! ≤ E[j]!
theorem srt_iff {a b : Nat} {E : Array Nat} : Sort.SortedIn ltN a b E ↔ Srt a b E := by
  unfold Sort.SortedIn Srt
  simp only [ltN, decide_eq_false_iff_not, Nat.not_lt]
/-- nothing between a and b is less than what stands ahead -/
def Blw (a b : Nat) (E : Array Nat) : Prop := a = 0 ∨ ∀ t, a ≤ t → t < b → E[a - 1]! ≤ E[t]!
/-- ahead of each round: what is left is between x and y -/
structure Inv (a b : Nat) (D E : Array Nat) (x y : Nat) : Prop where
  perm : Sort.PermIn a b D E
  ax : a ≤ x
  xy : x ≤ y
  yb : y ≤ b
  blw : Blw x y E
  con : ∀ F, Sort.PermIn x y E F → Srt x y F → Srt a b F
section
variable {a b x y m v : Nat} {D E F : Array Nat}
theorem Inv.start (hab : a ≤ b) (h : Blw a b D) : Inv a b D D a b := ⟨Sort.permIn_refl _ _ _, Nat.le_refl _, hab, Nat.le_refl _, h, fun _ _ h => h⟩
theorem permAll (hb : b ≤ D.size) (h : Sort.PermIn a b D E) {q : Nat → Prop} (hq : ∀ t, a ≤ t → t < b → q D[t]!) : ∀ t, a ≤ t → t < b → q E[t]! := Sort.permIn_all D E a b q hb h hq
theorem Blw.perm (hb : y ≤ E.size) (h : Blw x y E) (hp : Sort.PermIn x y E F) : Blw x y F := by
  rcases h with h | h
  · exact .inl h
  · by_cases h0 : x = 0
    · exact .inl h0
    · refine .inr ?_
      rw [hp.2.1 (x - 1) (by omega)]
      exact permAll hb hp (q := fun z => E[x - 1]! ≤ z) h
theorem Inv.turn (hb : b ≤ D.size) (h : Inv a b D E x y) (hp : Sort.PermIn x y E F) : Inv a b D F x y := by
  have hs := h.perm.1
  have hyb := h.yb
  exact ⟨Sort.permIn_trans _ _ _ _ _ h.perm (Sort.permIn_mono E F x y a b h.ax h.yb (by omega) hp), h.ax, h.xy, h.yb, h.blw.perm (by omega) hp, fun G h1 h2 => h.con G (Sort.permIn_trans _ _ _ _ _ hp h1) h2⟩
theorem Inv.done (hb : b ≤ D.size) (h : Inv a b D E x y) (hp : Sort.PermIn x y E F) (hs : Srt x y F) : Sort.PermIn a b D F ∧ Srt a b F :=
  ⟨(h.turn hb hp).perm, h.con F hp hs⟩
/-- behind the parting into equals and greater ones -/
theorem Inv.equal (hb : b ≤ D.size) (h : Inv a b D E x y) (hx : 0 < x) (hv : v ≤ E[x - 1]!) (ho : PeqOk x y m v E F) : Inv a b D F m y := by
  have hs := h.perm.1
  have hyb := h.yb
  have h2 := h.turn hb ho.perm
  have hlow : ∀ t, x ≤ t → t < y → v ≤ F[t]! := fun t k1 k2 => by
    rcases h2.blw with e | e
    · omega
    · have := e t k1 k2
      rw [ho.perm.2.1 (x - 1) (by omega)] at this
      omega
  have ham := ho.am
  have hmb := ho.mb
  refine ⟨h2.perm, by have := h.ax; omega, ho.mb, h.yb, .inr fun t k1 k2 => ?_, fun G g1 g2 => ?_⟩
  · have := ho.hi t k1 k2
    have := ho.lo (m - 1) (by omega) (by omega)
    omega
  · refine h2.con G (Sort.permIn_mono F G m y x y (by omega) (Nat.le_refl _) (by rw [ho.perm.1]; omega) g1) fun i j k1 k2 k3 => ?_
    have hgt : ∀ t, m ≤ t → t < y → v < G[t]! := permAll (by rw [ho.perm.1]; omega) g1 (q := fun z => v < z) ho.hi
    rcases Nat.lt_or_ge i m with e1 | e1
    · rw [g1.2.1 i (.inl e1)]
      have hi := ho.lo i k1 e1
      rcases Nat.lt_or_ge j m with e2 | e2
      · rw [g1.2.1 j (.inl e2)]
        have := hlow j (by omega) k3
        omega
      · have := hgt j e2 k3
        omega
    · exact g2 i j e1 k2 k3
theorem part_srt (ho : PartOk x y m E F) {G : Array Nat} (hy : y ≤ E.size) (hl : ∀ t, x ≤ t → t < m → G[t]! < F[m]!) (hm : G[m]! = F[m]!) (hr : ∀ t, m < t → t < y → F[m]! ≤ G[t]!) (s1 : Srt x m G) (s2 : Srt (m + 1) y G) : Srt x y G := by
  intro i j k1 k2 k3
  rcases Nat.lt_trichotomy i m with e1 | e1 | e1
  · have hi := hl i k1 e1
    rcases Nat.lt_trichotomy j m with e2 | e2 | e2
    · exact s1 i j k1 k2 e2
    · subst e2; omega
    · have := hr j e2 k3; omega
  · subst e1
    have := hr j k2 k3; omega
  · exact s2 i j (by omega) k2 k3
/-- behind the parting, the left part sorted -/
theorem Inv.left (hb : b ≤ D.size) (h : Inv a b D E x y) (ho : PartOk x y m E F) {H : Array Nat} (hp : Sort.PermIn x m F H) (hs : Srt x m H) : Inv a b D H (m + 1) y := by
  have h2 := h.turn hb ho.perm
  have hfs := h2.perm.1
  have hyb := h.yb
  have ham := ho.am
  have hmb := ho.mb
  have hax := h.ax
  have h3 := h2.turn hb (Sort.permIn_mono F H x m x y (Nat.le_refl _) (by omega) (by omega) hp)
  have hHm : H[m]! = F[m]! := hp.2.1 m (by omega)
  have hl : ∀ t, x ≤ t → t < m → H[t]! < F[m]! := permAll (by omega) hp (q := fun z => z < F[m]!) ho.lo
  have hr : ∀ t, m < t → t < y → F[m]! ≤ H[t]! := fun t k1 k2 => by rw [hp.2.1 t (.inr (by omega))]; exact ho.hi t k1 k2
  have hHs := h3.perm.1
  refine ⟨h3.perm, by omega, by omega, hyb, .inr fun t k1 k2 => ?_, fun G g1 g2 => ?_⟩
  · rw [Nat.add_sub_cancel, hHm]; exact hr t (by omega) k2
  · have hG : ∀ t, t < m + 1 → G[t]! = H[t]! := fun t k => g1.2.1 t (.inl k)
    refine h3.con G (Sort.permIn_mono H G (m + 1) y x y (by omega) (Nat.le_refl _) (by omega) g1) (part_srt ho (by rw [← ho.perm.1]; omega) (fun t k1 k2 => by rw [hG t (by omega)]; exact hl t k1 k2) (by rw [hG m (by omega)]; exact hHm) (fun t k1 k2 => permAll (by omega) g1 (q := fun z => F[m]! ≤ z) (fun t k1 k2 => hr t (by omega) k2) t (by omega) k2) (fun i j k1 k2 k3 => by rw [hG i (by omega), hG j (by omega)]; exact hs i j k1 k2 k3) g2)
/-- behind the parting, the right part sorted -/
theorem Inv.right (hb : b ≤ D.size) (h : Inv a b D E x y) (ho : PartOk x y m E F) {H : Array Nat} (hp : Sort.PermIn (m + 1) y F H) (hs : Srt (m + 1) y H) : Inv a b D H x m := by
  have h2 := h.turn hb ho.perm
  have hfs := h2.perm.1
  have hyb := h.yb
  have ham := ho.am
  have hmb := ho.mb
  have hax := h.ax
  have h3 := h2.turn hb (Sort.permIn_mono F H (m + 1) y x y (by omega) (Nat.le_refl _) (by omega) hp)
  have hHm : H[m]! = F[m]! := hp.2.1 m (by omega)
  have hl : ∀ t, x ≤ t → t < m → H[t]! < F[m]! := fun t k1 k2 => by rw [hp.2.1 t (.inl (by omega))]; exact ho.lo t k1 k2
  have hr : ∀ t, m < t → t < y → F[m]! ≤ H[t]! := fun t k1 k2 => permAll (by omega) hp (q := fun z => F[m]! ≤ z) (fun t k1 k2 => ho.hi t (by omega) k2) t (by omega) k2
  have hHs := h3.perm.1
  refine ⟨h3.perm, hax, ham, by omega, ?_, fun G g1 g2 => ?_⟩
  · rcases h3.blw with e | e
    · exact .inl e
    · exact .inr fun t k1 k2 => e t k1 (by omega)
  · have hG : ∀ t, m ≤ t → G[t]! = H[t]! := fun t k => g1.2.1 t (.inr k)
    refine h3.con G (Sort.permIn_mono H G x m x y (Nat.le_refl _) (by omega) (by omega) g1) (part_srt ho (by rw [← ho.perm.1]; omega) (permAll (by omega) g1 (q := fun z => z < F[m]!) hl) (by rw [hG m (Nat.le_refl _)]; exact hHm) (fun t k1 k2 => by rw [hG t (by omega)]; exact hr t k1 k2) g2 (fun i j k1 k2 k3 => by rw [hG i (by omega), hG j (by omega)]; exact hs i j k1 k2 k3))
theorem Inv.lblw (hb : b ≤ D.size) (h : Inv a b D E x y) (ho : PartOk x y m E F) : Blw x m F := by
  rcases (h.turn hb ho.perm).blw with e | e
  · exact .inl e
  · exact .inr fun t k1 k2 => e t k1 (by have := ho.mb; omega)
theorem PartOk.rblw (ho : PartOk x y m E F) : Blw (m + 1) y F := .inr fun t k1 k2 => by rw [Nat.add_sub_cancel]; exact ho.hi t (by omega) k2
end
end Go.Proofs.YthfekjnekaecaaaDoor
