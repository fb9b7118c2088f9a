/- The document's table of strings, read back. Where the parts of a built file stand. The segments of a built file, checked. No condition. -/
import Derived.Test.YtbnahidopemkiaaBpA
import Derived.Test.YtbnahidopemkiaaLy3
set_option linter.unusedVariables false
set_option linter.unusedSimpArgs false
namespace Go.Dm.Ld
open Go Go.Dm.Oc
theorem atM_at {t : BS} {p : Nat} {s : BS} (h : At t p (s ++ [0])) (h0 : (0 : UInt8) ∉ s) : atM t p = (0, s) := by
  have hl := h.len
  rw [List.length_append] at hl
  simp only [List.length_cons, List.length_nil] at hl
  obtain ⟨x, y, rfl, rfl⟩ := h
  have hd : (x ++ (s ++ [0]) ++ y).drop x.length = s ++ 0 :: y := by
    rw [List.append_assoc, List.drop_left, List.append_assoc]
    rfl
  unfold atM
  rw [if_neg (by omega), hd, if_pos (by rw [List.contains_iff_mem]; exact List.mem_append_right _ (List.mem_cons_self ..))]
  have htw : ∀ s : BS, (0 : UInt8) ∉ s → (s ++ 0 :: y).takeWhile (· != 0) = s := fun s => by
    induction s with
    | nil => intro _; rfl
    | cons a r ih =>
      intro hn
      have ha : (a != 0) = true := by
        rw [bne_iff_ne]
        exact fun e => hn (e ▸ List.mem_cons_self ..)
      rw [List.cons_append, List.takeWhile_cons, ha, if_pos rfl, ih fun hm => hn (List.mem_cons_of_mem _ hm)]
  rw [htw s h0]
structure TbOk (tb : BS) (D : List (BS × Nat)) : Prop where
  at_ : ∀ p ∈ D, At tb p.2 (p.1 ++ [0])
  zero : At tb 0 [0]
  last : tb.getLast? = some 0
theorem strStep_at {done : List (BS × Nat)} {tb s : BS} (h : TbOk tb done) : TbOk (strStep done tb s).2 (done ++ [(s, (strStep done tb s).1)]) := by
  obtain ⟨h1, h2, h3⟩ := h
  unfold strStep
  split
  · rename_i hs
    subst hs
    refine ⟨fun p hp => ?_, h2, h3⟩
    rcases List.mem_append.1 hp with hp | hp
    · exact h1 p hp
    · rw [List.mem_singleton.1 hp]; exact h2
  · split
    · rename_i p hp
      have hs : p.1 = s := by
        have := List.find?_some hp
        exact eq_of_beq this
      refine ⟨fun q hq => ?_, h2, h3⟩
      rcases List.mem_append.1 hq with hq | hq
      · exact h1 q hq
      · rw [List.mem_singleton.1 hq, ← hs]; exact h1 p (List.mem_of_find?_eq_some hp)
    · refine ⟨fun q hq => ?_, ?_, ?_⟩
      · rcases List.mem_append.1 hq with hq | hq
        · dsimp only
          rw [List.append_assoc]
          exact (h1 q hq).app
        · rw [List.mem_singleton.1 hq]
          dsimp only
          rw [List.append_assoc]
          exact At.end_
      · dsimp only
        rw [List.append_assoc]
        exact h2.app
      · dsimp only
        rw [List.getLast?_append]
        rfl
theorem strGo_at : ∀ (l : List BS) (done : List (BS × Nat)) (tb : BS), TbOk tb done → TbOk (strGo l done tb).2 (strGo l done tb).1 ∧ (strGo l done tb).1.map (·.1) = done.map (·.1) ++ l
  | [], done, tb, h => ⟨h, by rw [List.append_nil]; rfl⟩
  | s :: r, done, tb, h => by
    have ih := strGo_at r _ _ (strStep_at (s := s) h)
    refine ⟨ih.1, ?_⟩
    have h2 : (strGo (s :: r) done tb).1.map (·.1) = _ := ih.2
    rw [h2, List.map_append, List.append_assoc]
    rfl
theorem strM_at {l : List BS} (h : (strM l).1 = 0) : ∃ D : List (BS × Nat), D.map (·.1) = l ∧ (strM l).2.2 = D.map (·.2) ∧ TbOk (strM l).2.1 D ∧ (∀ p ∈ D, (0 : UInt8) ∉ p.1) ∧ (strM l).2.1.length ≤ 65536 := by
  have h0 : TbOk [0] [] := ⟨fun p hp => (by cases hp), At.self, rfl⟩
  obtain ⟨h1, h2⟩ := strGo_at l [] [0] h0
  unfold strM at *
  split at h
  · cases h
  · rename_i hz
    rw [if_neg hz]
    split at h
    · cases h
    · rename_i hl
      rw [if_neg hl]
      refine ⟨(strGo l [] [0]).1, h2, rfl, h1, fun p hp hm => hz ?_, by show (strGo l [] [0]).2.length ≤ 65536; omega⟩
      have hp2 : p.1 ∈ l := by
        have h3 : (strGo l [] [0]).1.map (·.1) = l := h2
        rw [← h3]
        exact List.mem_map.2 ⟨p, hp, rfl⟩
      exact List.any_eq_true.2 ⟨p.1, hp2, List.contains_iff_mem.2 hm⟩
theorem TbOk.atM {tb : BS} {D : List (BS × Nat)} (h : TbOk tb D) (h0 : ∀ p ∈ D, (0 : UInt8) ∉ p.1) {p : BS × Nat} (hp : p ∈ D) : atM tb p.2 = (0, p.1) := atM_at (h.at_ p hp) (h0 p hp)
theorem TbOk.pos {tb : BS} {D : List (BS × Nat)} (h : TbOk tb D) {p : BS × Nat} (hp : p ∈ D) (h0 : (0 : UInt8) ∉ p.1) (hz : p.2 = 0) : p.1 = [] := by
  obtain ⟨x, y, e, hx⟩ := h.at_ p hp
  obtain ⟨x2, y2, e2, hx2⟩ := h.zero
  rw [hz] at hx
  have hx := List.length_eq_zero_iff.1 hx
  have hx2 := List.length_eq_zero_iff.1 hx2
  subst hx hx2
  rw [e] at e2
  cases hp1 : p.1 with
  | nil => rfl
  | cons a r =>
    rw [hp1] at e2 h0
    injection e2 with e3 e4
    exact absurd (e3 ▸ List.mem_cons_self ..) h0
theorem TbOk.chk {tb : BS} {D : List (BS × Nat)} (h : TbOk tb D) : chkN tb = 0 := by
  obtain ⟨x, y, e, hx⟩ := h.zero
  have hx := List.length_eq_zero_iff.1 hx
  unfold chkN
  rw [if_pos ⟨by rw [e, hx]; rfl, h.last⟩]
theorem needGo_at {t : BS} : ∀ (Z : List (BS × Nat)) (acc : List BS), (∀ z ∈ Z, atM t z.2 = (0, z.1) ∧ z.1 ≠ []) → needGo t (Z.map (·.2)) acc = (0, acc ++ Z.map (·.1))
  | [], acc, _ => by rw [List.map_nil, List.map_nil, List.append_nil]; rfl
  | z :: r, acc, h => by
    obtain ⟨h1, h2⟩ := h z (List.mem_cons_self ..)
    rw [List.map_cons, List.map_cons]
    unfold needGo
    rw [h1]
    dsimp only
    rw [if_neg (fun h => h rfl), if_neg h2, needGo_at r _ fun z hz => h z (List.mem_cons_of_mem _ hz), List.append_assoc]
    rfl
theorem nmGo_at {t : BS} : ∀ (Z : List (BS × Sy)) (acc : List BS), (∀ z ∈ Z, atM t z.2.nm = (0, z.1)) → nmGo t (Z.map (·.2)) acc = (0, acc ++ Z.map (·.1))
  | [], acc, _ => by rw [List.map_nil, List.map_nil, List.append_nil]; rfl
  | z :: r, acc, h => by
    have h1 := h z (List.mem_cons_self ..)
    rw [List.map_cons, List.map_cons]
    unfold nmGo
    rw [h1]
    dsimp only
    rw [if_neg (fun h => h rfl), nmGo_at r _ fun z hz => h z (List.mem_cons_of_mem _ hz), List.append_assoc]
    rfl
theorem soM_at {t : BS} {D : List (BS × Nat)} (h : TbOk t D) (h0 : ∀ p ∈ D, (0 : UInt8) ∉ p.1) {p : BS × Nat} (hp : p ∈ D) : soM t p.2 = (0, p.1) := by
  unfold soM
  split
  · rename_i hz
    rw [h.pos hp (h0 p hp) hz]
  · exact h.atM h0 hp
end Go.Dm.Ld
namespace Go.Dm.Ld
open Go Go.Dm.Oc
theorem padM_up8 (l : BS) : (padM l 8).length = upM l.length 8 := by
  unfold padM upM
  rw [List.length_append, List.length_replicate]
  omega
theorem padM_up256 (l : BS) : (padM l 256).length = upM l.length 256 := by
  unfold padM upM
  rw [List.length_append, List.length_replicate]
  omega
theorem At.pad {b P : BS} {o n : Nat} (h : At b o P) : At (padM b n) o P := by unfold padM; exact h.app
theorem infoB_len2 (nd V W : List Nat) (h0 : V.getD 0 0 = W.getD 0 0) (h4 : V.getD 4 0 = W.getD 4 0) (h6 : V.getD 6 0 = W.getD 6 0) : (infoB nd V).length = (infoB nd W).length := by
  have h : ∀ i, (entI V i).length = (entI W i).length := fun i => by
    have hsk : skipI V i = skipI W i := by
      unfold skipI
      rw [h4, h6]
      by_cases hi : i = 0
      · rw [hi, h0]
      · rw [decide_eq_false hi, Bool.false_and, Bool.false_and]
    unfold entI
    rw [hsk]
    split
    · rfl
    · unfold entB
      simp only [List.length_append, le_len]
  unfold infoB
  rw [List.length_append, List.length_append, List.length_append, List.length_append, List.length_flatMap (f := entI V), List.length_flatMap (f := entI W)]
  congr 3
  exact List.map_congr_left fun i _ => h i
structure LayF (s : Sp) (tl : Nat) (ats : List Nat) (y : Lay) : Prop where
  count : y.count = 2 + (if s.code.isEmpty then 0 else 1) + (if hasDB s then 1 else 0) + (if hasTB s then 1 else 0)
  dyn : y.dyn = 64 + 56 * y.count
  v : y.v = [ats.getD 0 0, y.dyn + y.size, tl, upM (y.dyn + y.size + tl) 8, if s.defs.isEmpty then 0 else s.defs.length + 1, upM (y.dyn + y.size + tl) 8 + 24 * (if s.defs.isEmpty then 0 else s.defs.length + 1), 24 * s.fixes.length]
  size : y.size = (infoB ((ats.drop 1).take s.need.length) y.v).length
  last : y.last = upM (y.dyn + y.size + tl) 8 + 24 * (if s.defs.isEmpty then 0 else s.defs.length + 1) + 24 * s.fixes.length
  code : y.code = upM y.last 256
  data : y.data = upM (y.code + s.code.length) 256
  tls : y.tls = upM (y.data + s.data.length) 8
theorem layM_f (s : Sp) (tl : Nat) (ats : List Nat) : LayF s tl ats (layM s tl ats) :=
  ⟨rfl, rfl, rfl, infoB_len2 _ _ _ rfl rfl rfl, rfl, rfl, rfl, rfl⟩
structure BodyAt (s : Sp) (y : Lay) (tb : BS) (ats : List Nat) (o : BS) : Prop where
  a : At o 0 (headsM s y ++ infoB ((ats.drop 1).take s.need.length) y.v ++ tb)
  sy : s.defs ≠ [] → At o (y.v.getD 3 0) (List.replicate 24 0 ++ ((ats.drop (1 + s.need.length)).zip s.defs).flatMap fun p => symR (symOf y p.1 p.2))
  rl : At o (y.v.getD 5 0) (s.fixes.flatMap fun f => relR (relOf y f))
  code : s.code ≠ [] → At o y.code s.code
  data : s.data ≠ [] → At o y.data s.data
  tls : s.tls ≠ [] → At o y.tls s.tls
theorem isEmpty_false {α : Type} {l : List α} (h : l ≠ []) : l.isEmpty = false := by cases l <;> simp_all
theorem At.endC {s : Sp} {b P : BS} {o : Nat} (h : At b o P) : At (endC s b) o P := by
  unfold Ld.endC
  split
  · exact h
  · exact h.pad.app
theorem At.endD {s : Sp} {b P : BS} {o : Nat} (h : At b o P) : At (endD s b) o P := by
  unfold Ld.endD
  split
  · exact h
  · exact h.pad.app
theorem At.endT {s : Sp} {y : Lay} {b P : BS} {o : Nat} (h : At b o P) : At (endT s y b) o P := by
  unfold Ld.endT
  split
  · exact h
  · exact h.app.app
theorem headsM_len (s : Sp) (y : Lay) : (headsM s y).length = 64 + 56 * (2 + (if s.code.isEmpty then 0 else 1) + (if hasDB s then 1 else 0) + (if hasTB s then 1 else 0)) := by
  unfold headsM
  simp only [List.length_append, headB_len, segR_len2]
  cases s.code.isEmpty <;> cases hasDB s <;> cases hasTB s <;> simp [segR_len2]
theorem bodyM_at {s : Sp} {y : Lay} {tb : BS} {ats : List Nat} (hy : LayF s tb.length ats y) (hal : ats.length = 1 + s.need.length + s.defs.length) : BodyAt s y tb ats (bodyM s y tb ats) := by
  obtain ⟨y1, y2, y3, y4, y5, y6, y7, y8⟩ := hy
  rw [bodyM_end]
  unfold endM tailM endsM
  obtain ⟨A, hA⟩ : ∃ A, A = padM (headsM s y ++ infoB ((ats.drop 1).take s.need.length) y.v ++ tb) 8 := ⟨_, rfl⟩
  obtain ⟨S, hS⟩ : ∃ S, S = ((ats.drop (1 + s.need.length)).zip s.defs).flatMap fun p => symR (symOf y p.1 p.2) := ⟨_, rfl⟩
  obtain ⟨R, hR⟩ : ∃ R, R = s.fixes.flatMap fun f => relR (relOf y f) := ⟨_, rfl⟩
  have hSl : S.length = 24 * s.defs.length := by
    rw [hS, flat24 _ (fun _ => symR_len _), List.length_zip, List.length_drop, hal]
    omega
  have hRl : R.length = 24 * s.fixes.length := by rw [hR, flat24 _ (fun _ => relR_len _)]
  have hAl : A.length = upM (y.dyn + y.size + tb.length) 8 := by
    rw [hA, padM_up8, List.length_append, List.length_append, headsM_len, ← y1, ← y2, ← y4]
  have hA0 : At A 0 (headsM s y ++ infoB ((ats.drop 1).take s.need.length) y.v ++ tb) := by rw [hA]; exact At.self.pad
  rw [← hA, ← hS, ← hR]
  have e3 : y.v.getD 3 0 = A.length := by rw [y3, hAl]; rfl
  have hdl : s.defs.isEmpty = true ∧ s.defs.length = 0 ∨ s.defs.isEmpty = false ∧ s.defs ≠ [] := by cases s.defs <;> simp
  obtain ⟨Z, hZ⟩ : ∃ Z : BS, Z = if s.defs.isEmpty then [] else List.replicate 24 0 := ⟨_, rfl⟩
  have hZl : Z.length + S.length = 24 * (if s.defs.isEmpty then 0 else s.defs.length + 1) := by
    rw [hZ, hSl]
    rcases hdl with ⟨h1, h2⟩ | ⟨h1, h2⟩
    · rw [h1, if_pos rfl, if_pos rfl, h2]; rfl
    · rw [h1, if_neg (by decide), if_neg (by decide), List.length_replicate]; omega
  have e5 : y.v.getD 5 0 = (A ++ Z ++ S).length := by
    rw [List.length_append, List.length_append, Nat.add_assoc, hZl, y3, hAl]; rfl
  rw [← hZ]
  obtain ⟨B, hB⟩ : ∃ B, B = A ++ Z ++ S ++ R := ⟨_, rfl⟩
  have hBl : B.length = y.last := by
    rw [hB, List.length_append, List.length_append, List.length_append, hRl, y5, ← hAl]
    omega
  have b1 : At B 0 (headsM s y ++ infoB ((ats.drop 1).take s.need.length) y.v ++ tb) := by rw [hB]; exact hA0.app.app.app
  have b2 : At B A.length (Z ++ S) := by rw [hB, List.append_assoc A Z S]; exact At.end_.app
  have b3 : At B (A ++ Z ++ S).length R := by rw [hB]; exact At.end_
  rw [← hB]
  obtain ⟨C, hC⟩ : ∃ C, C = endC s B := ⟨_, rfl⟩
  have hCl : C.length = (if s.code.isEmpty then y.last else y.code + s.code.length) ∧ (s.code ≠ [] → At C y.code s.code) := by
    rw [hC]
    unfold endC
    rcases (by cases s.code <;> simp : s.code.isEmpty = true ∧ s.code = [] ∨ s.code.isEmpty = false ∧ s.code ≠ []) with ⟨h1, h2⟩ | ⟨h1, h2⟩
    · rw [h1, if_pos rfl, if_pos rfl]
      exact ⟨hBl, fun h => absurd h2 h⟩
    · rw [h1, if_neg (by decide), if_neg (by decide)]
      have hp : (padM B 256).length = y.code := by rw [padM_up256, hBl, y6]
      refine ⟨by rw [List.length_append, hp], fun _ => ?_⟩
      rw [← hp]
      exact At.end_
  obtain ⟨D, hD⟩ : ∃ D, D = endD s C := ⟨_, rfl⟩
  have hCd : upM C.length 256 = y.data ∧ C.length ≤ y.data := by
    rcases (by cases s.code <;> simp : s.code.isEmpty = true ∧ s.code.length = 0 ∨ s.code.isEmpty = false ∧ s.code ≠ []) with ⟨h1, h2⟩ | ⟨h1, h2⟩
    · rw [hCl.1, h1, if_pos rfl, y7, h2, y6]
      unfold upM
      omega
    · rw [hCl.1, h1, if_neg (by decide), y7]
      refine ⟨rfl, ?_⟩
      unfold upM
      omega
  have hDl : D.length ≤ y.data + s.data.length ∧ (s.data ≠ [] → At D y.data s.data) := by
    rw [hD]
    unfold endD
    rcases (by cases s.data <;> simp : s.data.isEmpty = true ∧ s.data = [] ∨ s.data.isEmpty = false ∧ s.data ≠ []) with ⟨h1, h2⟩ | ⟨h1, h2⟩
    · rw [h1, if_pos rfl]
      exact ⟨by omega, fun h => absurd h2 h⟩
    · rw [h1, if_neg (by decide)]
      have hp : (padM C 256).length = y.data := by rw [padM_up256, hCd.1]
      refine ⟨by rw [List.length_append, hp]; exact Nat.le_refl _, fun _ => ?_⟩
      rw [← hp]
      exact At.end_
  have hT : s.tls ≠ [] → At (endT s y D) y.tls s.tls := fun h => by
    unfold endT
    rw [isEmpty_false h, if_neg (by decide)]
    have hp : (D ++ List.replicate (y.tls - D.length) 0).length = y.tls := by
      rw [List.length_append, List.length_replicate]
      have : y.data + s.data.length ≤ y.tls := by rw [y8]; unfold upM; omega
      omega
    have := At.end_ (b := D ++ List.replicate (y.tls - D.length) 0) (Q := s.tls)
    rw [hp] at this
    exact this
  rw [← hC, ← hD]
  refine ⟨?_, fun h => ?_, ?_, fun h => ?_, fun h => (hDl.2 h).endT, hT⟩
  · rw [hD, hC]; exact b1.endC.endD.endT
  · rw [e3, ← hS, hD, hC]
    have := b2.endC (s := s) |>.endD (s := s) |>.endT (s := s) (y := y)
    rw [hZ, isEmpty_false h, if_neg (by decide)] at this
    exact this
  · rw [e5, ← hR, hD, hC]; exact b3.endC.endD.endT
  · rw [hD]; exact (hCl.2 h).endD.endT
end Go.Dm.Ld
namespace Go.Dm.Ld
open Go Go.Dm.Oc
def sg1 (y : Lay) : Sg := ⟨1, 4, 0, 0, y.last, y.last, 256⟩
def sgC (s : Sp) (y : Lay) : Sg := ⟨1, 5, y.code, y.code, s.code.length, s.code.length, 256⟩
def sgD (s : Sp) (y : Lay) : Sg := ⟨1, 6, if dataN s y = 0 then 0 else y.data, y.data, dataN s y, dataN s y + s.bss, 256⟩
def sgN (y : Lay) : Sg := ⟨2, 4, y.dyn, y.dyn, y.size, y.size, 8⟩
def sgT (s : Sp) (y : Lay) : Sg := ⟨7, 4, if s.tls.isEmpty then 0 else y.tls, if s.tls.isEmpty then 0 else y.tls, s.tls.length, s.tls.length + s.tbss, 8⟩
def segsM (s : Sp) (y : Lay) : List Sg := sg1 y :: ((if s.code.isEmpty then [] else [sgC s y]) ++ ((if hasDB s then [sgD s y] else []) ++ (sgN y :: (if hasTB s then [sgT s y] else []))))
theorem headsM_segs (s : Sp) (y : Lay) : headsM s y = headB ⟨s.kind.toNat, if s.code.isEmpty then 0 else (y.code + s.entry) % 18446744073709551616, 64, y.count⟩ ++ (segsM s y).flatMap segR := by
  unfold headsM segsM sg1 sgC sgD sgN sgT
  cases hasDB s <;> cases hasTB s <;> cases s.code.isEmpty <;> simp only [List.flatMap_cons, List.flatMap_append, List.flatMap_nil, List.append_nil, List.nil_append, List.append_assoc, if_true, if_false, Bool.false_eq_true, List.cons_append]
theorem segsM_len (s : Sp) (y : Lay) : (segsM s y).length = 2 + (if s.code.isEmpty then 0 else 1) + (if hasDB s then 1 else 0) + (if hasTB s then 1 else 0) := by
  unfold segsM
  cases hasDB s <;> cases hasTB s <;> cases s.code.isEmpty <;> rfl
theorem segsM_mem {s : Sp} {y : Lay} {x : Sg} (h : x ∈ segsM s y) : x = sg1 y ∨ (s.code ≠ [] ∧ x = sgC s y) ∨ (hasDB s = true ∧ x = sgD s y) ∨ x = sgN y ∨ (hasTB s = true ∧ x = sgT s y) := by
  unfold segsM at h
  rcases List.mem_cons.1 h with h | h
  · exact .inl h
  rcases List.mem_append.1 h with h | h
  · refine .inr (.inl ?_)
    rcases (by cases s.code <;> simp : s.code.isEmpty = true ∨ s.code.isEmpty = false ∧ s.code ≠ []) with e | ⟨e, hne⟩
    · rw [e, if_pos rfl] at h; cases h
    · rw [e, if_neg (by decide)] at h
      exact ⟨hne, List.mem_singleton.1 h⟩
  rcases List.mem_append.1 h with h | h
  · refine .inr (.inr (.inl ?_))
    split at h
    · rename_i hd; exact ⟨hd, List.mem_singleton.1 h⟩
    · cases h
  rcases List.mem_cons.1 h with h | h
  · exact .inr (.inr (.inr (.inl h)))
  · refine .inr (.inr (.inr (.inr ?_)))
    split at h
    · rename_i hd; exact ⟨hd, List.mem_singleton.1 h⟩
    · cases h
theorem sgN_ty (y : Lay) : (sgN y).ty = 2 := rfl
theorem sgT_ty (s : Sp) (y : Lay) : (sgT s y).ty = 7 := rfl
theorem chkA_load {size bh : Nat} {pre r : List Sg} {s : Sg} (h1 : oneE s size = 0) (h2 : s.ty = 1) (h3 : bh ≤ firstM s) : chkA size pre bh (s :: r) = chkA size (pre ++ [s]) (lastM s) r := by
  conv => lhs; unfold chkA
  have hs : singleB s = false := by unfold singleB; rw [h2]; rfl
  rw [if_neg (fun h => h h1), hs, if_neg (fun h => by cases h.1), if_pos h2, if_neg (by omega)]
theorem chkA_other {size bh : Nat} {pre r : List Sg} {s : Sg} (h1 : oneE s size = 0) (h2 : s.ty ≠ 1) (h3 : ∀ x ∈ pre, x.ty ≠ s.ty) : chkA size pre bh (s :: r) = chkA size (pre ++ [s]) bh r := by
  conv => lhs; unfold chkA
  have hs : pre.any (fun x => x.ty == s.ty) = false := by
    rw [List.any_eq_false]
    intro x hx h
    exact h3 x hx (eq_of_beq h)
  rw [if_neg (fun h => h h1), hs, if_neg (fun h => by cases h.2), if_neg h2]
/-- what is known of a built file's places -/
structure Sane (s : Sp) (y : Lay) (n : Nat) : Prop where
  dyn : y.dyn = 64 + 56 * y.count
  dl : y.dyn + y.size ≤ y.last
  sz : 0 < y.size
  ln : y.last ≤ n
  n16 : n ≤ 65536
  code : y.code = (y.last + 255) / 256 * 256
  data : y.data = (y.code + s.code.length + 255) / 256 * 256
  tls : y.tls = (y.data + s.data.length + 7) / 8 * 8
  cn : s.code ≠ [] → y.code + s.code.length ≤ n
  dn : s.data ≠ [] → y.data + s.data.length ≤ n
  tn : s.tls ≠ [] → y.tls + s.tls.length ≤ n
  cl : s.code.length ≤ 65536
  dtl : s.data.length ≤ 65536
  tl : s.tls.length ≤ 65536
  bss : s.bss ≤ 1048576
  tbss : s.tbss ≤ 1048576
section
variable {s : Sp} {y : Lay} {n : Nat}
theorem len0 {α : Type} {l : List α} : l.length = 0 ↔ l = [] := List.length_eq_zero_iff
theorem hasDB_iff : hasDB s = true ↔ (0 < s.data.length ∨ 0 < s.tls.length ∨ 0 < s.bss) := by
  unfold hasDB
  cases s.data <;> cases s.tls <;> simp
theorem hasTB_iff : hasTB s = true ↔ (0 < s.tls.length ∨ 0 < s.tbss) := by
  unfold hasTB
  cases s.tls <;> simp
theorem dataN_eq : dataN s y = if s.tls.length = 0 then s.data.length else y.tls + s.tls.length - y.data := by
  unfold dataN
  cases s.tls <;> rfl
theorem Sane.dataN (h : Sane s y n) : Ld.dataN s y ≤ 262144 ∧ (Ld.dataN s y ≠ 0 → y.data + Ld.dataN s y ≤ n) ∧ (0 < s.data.length ∨ 0 < s.tls.length → 0 < Ld.dataN s y) := by
  have h1 := h.dn
  have h2 := h.tn
  have h3 := h.tls
  have h4 := h.dtl
  have h5 := h.tl
  have h6 := h.n16
  rw [dataN_eq]
  split
  · rename_i ht
    refine ⟨by omega, fun h0 => h1 fun e => h0 (by rw [e]; rfl), by omega⟩
  · rename_i ht
    have := h2 fun e => ht (by rw [e]; rfl)
    refine ⟨by omega, fun _ => by omega, fun _ => by omega⟩
theorem Sane.ok (h : Sane s y n) (hc : y.count ≤ 5) : ∀ x ∈ segsM s y, SgOk x ∧ oneE x n = 0 := by
  obtain ⟨d1, d2, d3⟩ := h.dataN
  obtain ⟨a1, a2, a3, a4, a5, a6, a7, a8, a9, a10, a11, a12, a13, a14, a15, a16⟩ := h
  intro x hx
  rcases segsM_mem hx with rfl | ⟨hne, rfl⟩ | ⟨hd, rfl⟩ | rfl | ⟨ht, rfl⟩
  · unfold sg1 SgOk oneE kindB
    dsimp only
    refine ⟨by omega, ?_⟩
    rw [if_neg (by simp), if_neg (by omega), if_neg (by omega), if_neg (by omega), if_neg (by omega), if_neg (by omega)]
  · have hcl : 0 < s.code.length := Nat.pos_of_ne_zero fun e => hne (len0.1 e)
    have := a9 hne
    unfold sgC SgOk oneE kindB
    dsimp only
    refine ⟨by omega, ?_⟩
    rw [if_neg (by simp), if_neg (by omega), if_neg (by omega), if_neg (by omega), if_neg (by omega), if_neg (by omega)]
  · have hd2 := hasDB_iff.1 hd
    unfold sgD SgOk oneE kindB
    generalize Ld.dataN s y = dn at *
    dsimp only
    by_cases h0 : dn = 0
    · subst h0
      rw [if_pos rfl]
      refine ⟨by omega, ?_⟩
      rw [if_neg (by simp), if_neg (by omega), if_neg (by omega), if_neg (by omega), if_neg (by omega), if_neg (by omega)]
    · rw [if_neg h0]
      have := d2 h0
      refine ⟨by omega, ?_⟩
      rw [if_neg (by simp), if_neg (by omega), if_neg (by omega), if_neg (by omega), if_neg (by omega), if_neg (by omega)]
  · unfold sgN SgOk oneE kindB
    dsimp only
    refine ⟨by omega, ?_⟩
    rw [if_neg (by simp), if_neg (by omega), if_neg (by omega), if_neg (by omega), if_neg (by omega), if_neg (by omega)]
  · unfold sgT SgOk oneE kindB
    dsimp only
    cases htl : s.tls with
    | nil =>
      rw [htl] at a14
      simp only [List.isEmpty_nil, if_true, List.length_nil]
      refine ⟨by omega, ?_⟩
      rw [if_neg (by simp), if_neg (by omega), if_neg (by omega), if_neg (by omega), if_neg (by omega), if_neg (by omega)]
    | cons a r =>
      have h2 := a11 (by rw [htl]; simp)
      rw [htl] at h2 a14
      simp only [List.isEmpty_cons, Bool.false_eq_true, if_false]
      generalize (a :: r).length = k at *
      refine ⟨by omega, ?_⟩
      rw [if_neg (by simp), if_neg (by omega), if_neg (by omega), if_neg (by omega), if_neg (by omega), if_neg (by omega)]
theorem Sane.chkA (h : Sane s y n) (hc : y.count ≤ 5) : Ld.chkA n [] 0 (segsM s y) = 0 := by
  have hok := fun x hx => (h.ok hc x hx).2
  obtain ⟨a1, a2, a3, a4, a5, a6, a7, a8, a9, a10, a11, a12, a13, a14, a15, a16⟩ := h
  have m1 : sg1 y ∈ segsM s y := List.mem_cons_self ..
  have mN : sgN y ∈ segsM s y := List.mem_cons_of_mem _ (List.mem_append_right _ (List.mem_append_right _ (List.mem_cons_self ..)))
  have mC : s.code.isEmpty = false → sgC s y ∈ segsM s y := fun e => by
    unfold segsM
    rw [e, if_neg (by decide)]
    exact List.mem_cons_of_mem _ (List.mem_append_left _ (List.mem_cons_self ..))
  have mD : hasDB s = true → sgD s y ∈ segsM s y := fun e => by
    unfold segsM
    rw [e, if_pos rfl]
    exact List.mem_cons_of_mem _ (List.mem_append_right _ (List.mem_append_left _ (List.mem_cons_self ..)))
  have mT : hasTB s = true → sgT s y ∈ segsM s y := fun e => by
    unfold segsM
    rw [e, if_pos rfl]
    exact List.mem_cons_of_mem _ (List.mem_append_right _ (List.mem_append_right _ (List.mem_cons_of_mem _ (List.mem_cons_self ..))))
  have l1 : lastM (sg1 y) = y.code := by unfold lastM sg1; dsimp only; omega
  have fC : firstM (sgC s y) = y.code := by unfold firstM sgC; dsimp only; omega
  have lC : lastM (sgC s y) = y.data := by unfold lastM sgC; dsimp only; omega
  have fD : firstM (sgD s y) = y.data := by unfold firstM sgD; dsimp only; omega
  have tail : ∀ pre bh, (∀ x ∈ pre, x.ty = 1) → Ld.chkA n pre bh (sgN y :: (if hasTB s then [sgT s y] else [])) = 0 := fun pre bh hp => by
    rw [chkA_other (hok _ mN) (by rw [sgN_ty]; decide) fun x hx => by rw [hp x hx, sgN_ty]; decide]
    cases ht : hasTB s with
    | false => rfl
    | true =>
      rw [if_pos rfl, chkA_other (hok _ (mT ht)) (by rw [sgT_ty]; decide) fun x hx => by
        rcases List.mem_append.1 hx with hx | hx
        · rw [hp x hx, sgT_ty]; decide
        · rw [List.mem_singleton.1 hx, sgN_ty, sgT_ty]; decide]
      rfl
  have mid : ∀ pre bh, bh ≤ y.data → (∀ x ∈ pre, x.ty = 1) → Ld.chkA n pre bh ((if hasDB s then [sgD s y] else []) ++ (sgN y :: (if hasTB s then [sgT s y] else []))) = 0 := fun pre bh hb hp => by
    cases hd : hasDB s with
    | false => exact tail _ _ hp
    | true =>
      rw [if_pos rfl, List.cons_append, chkA_load (hok _ (mD hd)) rfl (by omega), List.nil_append]
      refine tail _ _ fun x hx => ?_
      rcases List.mem_append.1 hx with hx | hx
      · exact hp x hx
      · rw [List.mem_singleton.1 hx]; rfl
  unfold segsM at hok ⊢
  rw [chkA_load (hok _ (List.mem_cons_self ..)) rfl (Nat.zero_le _), l1]
  have hp : ∀ x ∈ [] ++ [sg1 y], x.ty = 1 := fun x hx => by rw [List.mem_singleton.1 hx]; rfl
  cases hce : s.code.isEmpty with
  | true =>
    have hcl : s.code.length = 0 := len0.2 (List.isEmpty_iff.1 hce)
    rw [if_pos rfl, List.nil_append]
    exact mid _ _ (by omega) hp
  | false =>
    rw [if_neg (by decide), List.cons_append, chkA_load (by have := mC hce; unfold segsM at this; exact hok _ this) rfl (by omega), List.nil_append, lC]
    refine mid _ _ (Nat.le_refl _) fun x hx => ?_
    rcases List.mem_append.1 hx with hx | hx
    · exact hp x hx
    · rw [List.mem_singleton.1 hx]; rfl
theorem Sane.chkE (h : Sane s y n) (hc : y.count ≤ 5) : Ld.chkE (segsM s y) n = 0 := by
  have hd := h.dataN
  have hA := h.chkA hc
  obtain ⟨a1, a2, a3, a4, a5, a6, a7, a8, a9, a10, a11, a12, a13, a14, a15, a16⟩ := h
  unfold Ld.chkE
  rw [if_neg (fun e => e hA), if_neg]
  rw [Bool.not_eq_true, List.any_eq_false]
  intro x hx hb
  rw [Bool.and_eq_true, Bool.not_eq_true'] at hb
  obtain ⟨hb1, hb2⟩ := hb
  unfold withinB at hb2
  rw [Bool.or_eq_false_iff, decide_eq_false_iff_not, List.any_eq_false] at hb2
  obtain ⟨hf, hb2⟩ := hb2
  rcases segsM_mem hx with rfl | ⟨hne, rfl⟩ | ⟨_, rfl⟩ | rfl | ⟨ht, rfl⟩
  · unfold singleB sg1 at hb1; simp at hb1
  · unfold singleB sgC at hb1; simp at hb1
  · unfold singleB sgD at hb1; simp at hb1
  · refine hb2 (sg1 y) (List.mem_cons_self ..) ?_
    unfold liesB sg1 sgN
    dsimp only
    rw [decide_eq_true_eq]
    refine ⟨rfl, Nat.zero_le _, ?_, ?_, ?_⟩
    · omega
    · omega
    · rw [Nat.zero_add, Nat.add_zero]
  · have htl : s.tls ≠ [] := fun e => hf (by unfold sgT; rw [e]; rfl)
    have htl2 : 0 < s.tls.length := Nat.pos_of_ne_zero fun e => htl (len0.1 e)
    have hdb : hasDB s = true := hasDB_iff.2 (.inr (.inl htl2))
    have mD : sgD s y ∈ segsM s y := by
      unfold segsM
      rw [hdb, if_pos rfl]
      exact List.mem_cons_of_mem _ (List.mem_append_right _ (List.mem_append_left _ (List.mem_cons_self ..)))
    refine hb2 (sgD s y) mD ?_
    have hdn := hd.2.2 (.inr htl2)
    have hde : Ld.dataN s y = y.tls + s.tls.length - y.data := by rw [dataN_eq, if_neg (by omega)]
    unfold liesB sgD sgT
    dsimp only
    rw [if_neg (by omega), isEmpty_false htl, if_neg (by decide), decide_eq_true_eq, hde]
    refine ⟨rfl, by omega, by omega, by omega, ?_⟩
    rw [Nat.add_comm]
theorem findM_1 : findM (segsM s y) 1 ≠ none := by
  unfold findM segsM
  rw [List.find?_cons]
  intro h
  cases h
theorem findM_2 : findM (segsM s y) 2 = some (sgN y) := by
  unfold findM segsM
  cases hasDB s <;> cases s.code.isEmpty <;> rfl
theorem findM_7 : findM (segsM s y) 7 = if hasTB s then some (sgT s y) else none := by
  unfold findM segsM
  cases hasDB s <;> cases s.code.isEmpty <;> cases hasTB s <;> rfl
theorem placeM_at {a m : Nat} (hm : 0 < m) (h : a + m ≤ y.last) : placeM (segsM s y) a m = (0, a) := by
  unfold segsM
  unfold placeM
  rw [if_pos]
  · show (0, 0 + (a - 0)) = (0, a)
    rw [Nat.zero_add, Nat.sub_zero]
  · unfold holdsB sg1
    dsimp only
    rw [decide_eq_true_eq]
    refine ⟨hm, rfl, Nat.zero_le _, ?_, ?_⟩
    · omega
    · omega
theorem atI_at {b P : BS} {a m : Nat} (hP : At b a P) (hm : m = P.length) (h0 : 0 < m) (h : a + m ≤ y.last) : atI b (segsM s y) a m = (0, P) := by
  unfold atI
  rw [placeM_at h0 h, if_pos rfl, hP.cut hm]
end
end Go.Dm.Ld
