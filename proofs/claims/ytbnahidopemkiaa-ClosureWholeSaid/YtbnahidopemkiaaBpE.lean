/- Parts of bytes: where a part stands, what its numbers are. The document's table of strings, read back. Where the parts of a built file stand. The segments of a built file, checked. Symbols and relocations of a built file, read back. No condition. -/
import Derived.Test.YtbnahidopemkiaaApS
import Derived.Test.YtbnahidopemkiaaSy4
import Derived.Test.YtbnahidopemkiaaBu9a
import Derived.Test.YtbnahidopemkiaaBu9d
set_option linter.unusedVariables false
set_option linter.unusedSimpArgs false
namespace Go.Dm.Ld
open Go Go.Dm.Oc
/-- P stands in b from o on -/
def At (b : BS) (o : Nat) (P : BS) : Prop := ∃ x y, b = x ++ P ++ y ∧ x.length = o
section
variable {b P Q R : BS} {o k n : Nat}
theorem At.left (h : At b o (P ++ Q)) : At b o P := by
  obtain ⟨x, y, rfl, rfl⟩ := h
  exact ⟨x, Q ++ y, by simp only [List.append_assoc], rfl⟩
theorem At.right (h : At b o (P ++ Q)) : At b (o + P.length) Q := by
  obtain ⟨x, y, rfl, rfl⟩ := h
  exact ⟨x ++ P, y, by simp only [List.append_assoc], by rw [List.length_append]⟩
theorem At.of_eq (h : At b o P) (e : P = Q ++ R) (hk : k = o + Q.length) : At b k R := by
  subst e hk
  exact h.right
theorem At.len (h : At b o P) : o + P.length ≤ b.length := by
  obtain ⟨x, y, rfl, rfl⟩ := h
  simp only [List.length_append]
  omega
theorem At.part (h : At b o P) : (b.drop o).take P.length = P := by
  obtain ⟨x, y, rfl, rfl⟩ := h
  rw [List.append_assoc, List.drop_left, List.take_left]
theorem At.cut (h : At b o P) (hn : n = P.length) : cutM b o n = (0, P) := by
  subst hn
  have h2 := h.len
  unfold cutM hasB
  rw [if_pos (by rw [Bool.and_eq_true, decide_eq_true_eq, decide_eq_true_eq]; omega), h.part]
theorem At.drop (h : At b o P) : At (b.drop o) 0 P := by
  obtain ⟨x, y, rfl, rfl⟩ := h
  exact ⟨[], y, by rw [List.append_assoc, List.drop_left, List.nil_append], rfl⟩
theorem At.sub (h : At b o P) (h2 : At P k Q) : At b (o + k) Q := by
  obtain ⟨x, y, rfl, rfl⟩ := h
  obtain ⟨x2, y2, rfl, rfl⟩ := h2
  exact ⟨x ++ x2, y2 ++ y, by simp only [List.append_assoc], by rw [List.length_append]⟩
theorem At.self : At b 0 b := ⟨[], [], by simp, rfl⟩
theorem At.app (h : At b o P) : At (b ++ Q) o P := by
  obtain ⟨x, y, rfl, rfl⟩ := h
  exact ⟨x, y ++ Q, by simp only [List.append_assoc], rfl⟩
theorem At.end_ : At (b ++ Q) b.length Q := ⟨b, [], by simp, rfl⟩
theorem At.raw (h : At b o P) (hn : P.length = n) (hw : n = 1 ∨ n = 2 ∨ n = 4 ∨ n = 8) : getX b o (n : Int) = leN P := by
  have h2 := h.len
  subst hn
  have hf : fitsE b.length o (P.length : Int) = 0 := by
    unfold fitsE hasB widthB
    rw [if_pos (by rw [decide_eq_true_eq]; omega), if_pos (by rw [Bool.and_eq_true, decide_eq_true_eq, decide_eq_true_eq]; omega)]
  unfold getX
  rw [if_pos hf, Int.toNat_natCast, h.part]
theorem At.num {x : Nat} (h : At b o (le n x)) (hw : n = 1 ∨ n = 2 ∨ n = 4 ∨ n = 8) (hx : x < 256 ^ n) : getX b o (n : Int) = x := by
  rw [h.raw (le_len n x) hw, leN_le, Nat.mod_eq_of_lt hx]
theorem leN_append (x y : BS) : leN (x ++ y) = leN x + 256 ^ x.length * leN y := by
  induction x with
  | nil => simp [leN]
  | cons a r ih =>
    simp only [List.cons_append, leN, ih, List.length_cons, Nat.pow_succ]
    rw [Nat.mul_add, Nat.mul_comm (256 ^ r.length) 256, Nat.mul_assoc, Nat.add_assoc]
end
/-! the head -/
theorem headIn_at {b : BS} {h : Hd} (hb : At b 0 (headB h)) (h1 : h.kind < 65536) (h2 : h.entry < 18446744073709551616) (h3 : h.segs < 18446744073709551616) (h4 : h.count < 65536) : headIn b = h := by
  have hl := hb.len
  rw [headB_len] at hl
  have q1 : At b 16 (le 2 h.kind) := (hb.left.left.left.left.left.left.left.left.left.left.left.left.of_eq rfl (by simp [magic]))
  have q2 : At b 24 (le 8 h.entry) := (hb.left.left.left.left.left.left.left.left.left.of_eq rfl (by simp [magic, le_len]))
  have q3 : At b 32 (le 8 h.segs) := (hb.left.left.left.left.left.left.left.left.of_eq rfl (by simp [magic, le_len]))
  have q4 : At b 56 (le 2 h.count) := (hb.left.left.left.of_eq rfl (by simp [magic, le_len]))
  unfold headIn
  rw [show ((2 : Int)) = ((2 : Nat) : Int) from rfl, show ((8 : Int)) = ((8 : Nat) : Int) from rfl, q1.num (by omega) h1, q2.num (by omega) h2, q3.num (by omega) h3, q4.num (by omega) h4]
theorem headM_at {b : BS} {h : Hd} (hb : At b 0 (headB h)) (hok : headOk h = true) (h2 : h.entry < 18446744073709551616) (h3 : h.segs < 18446744073709551616) : headM b = (0, h) := by
  have hl := hb.len
  rw [headB_len] at hl
  have hp := hb.part
  rw [headB_len, List.drop_zero] at hp
  have hk : h.kind < 65536 ∧ h.count < 65536 := by
    unfold headOk at hok
    simp only [Bool.and_eq_true, decide_eq_true_eq] at hok
    omega
  unfold headM
  rw [if_neg (by omega), headIn_at hb hk.1 h2 h3 hk.2, hok, hp, decide_eq_true rfl]
  rfl
/-! segments -/
theorem sgGet_at {b : BS} {s : Sg} (hb : At b 0 (segR s)) (hs : SgOk s) : sgGet b = (0, s) := by
  obtain ⟨h1, h2, h3, h4, h5, h6, h7⟩ := hs
  have hl := hb.len
  have hsl : (segR s).length = 56 := by unfold segR; simp only [List.length_append, le_len]
  rw [hsl] at hl
  have q0 : At b 0 (le 4 s.ty ++ le 4 s.fl) := hb.left.left.left.left.left.left
  have q1 : At b 8 (le 8 s.off) := hb.left.left.left.left.left.of_eq rfl (by simp [le_len])
  have q2 : At b 16 (le 8 s.va) := hb.left.left.left.left.of_eq rfl (by simp [le_len])
  have q3 : At b 24 (le 8 s.va) := hb.left.left.left.of_eq rfl (by simp [le_len])
  have q4 : At b 32 (le 8 s.fi) := hb.left.left.of_eq rfl (by simp [le_len])
  have q5 : At b 40 (le 8 s.me) := hb.left.of_eq rfl (by simp [le_len])
  have q6 : At b 48 (le 8 s.al) := hb.of_eq rfl (by simp [le_len])
  have e0 : getX b 0 (8 : Int) = s.ty + 4294967296 * s.fl := by
    rw [show ((8 : Int)) = ((8 : Nat) : Int) from rfl, q0.raw (by rw [List.length_append, le_len, le_len]) (by omega), leN_append, leN_le, leN_le, le_len, Nat.mod_eq_of_lt h1, Nat.mod_eq_of_lt h2]
  have e1 : getX b 8 (8 : Int) = s.off := q1.num (by omega) h3
  have e2 : getX b 16 (8 : Int) = s.va := q2.num (by omega) h4
  have e3 : getX b 24 (8 : Int) = s.va := q3.num (by omega) h4
  have e4 : getX b 32 (8 : Int) = s.fi := q4.num (by omega) h5
  have e5 : getX b 40 (8 : Int) = s.me := q5.num (by omega) h6
  have e6 : getX b 48 (8 : Int) = s.al := q6.num (by omega) h7
  unfold sgGet
  rw [if_neg (by omega), e2, e3, if_pos rfl]
  unfold sgIn
  rw [e0, e1, e2, e4, e5, e6, Nat.add_mul_mod_self_left, Nat.mod_eq_of_lt h1, show (s.ty + 4294967296 * s.fl) / 4294967296 = s.fl from by omega]
theorem segR_len2 (s : Sg) : (segR s).length = 56 := by unfold segR; simp only [List.length_append, le_len]
theorem sgGo_at (rest : BS) : ∀ (L : List Sg) (i : Nat) (acc : List Sg), At rest (i * 56) (L.flatMap segR) → (∀ s ∈ L, SgOk s) → sgGo rest L.length i acc = (0, acc ++ L)
  | [], i, acc, _, _ => by rw [List.append_nil]; rfl
  | s :: r, i, acc, h, hs => by
    rw [List.flatMap_cons] at h
    have hg := sgGet_at h.left.drop (hs s (List.mem_cons_self ..))
    rw [List.length_cons]
    unfold sgGo
    rw [hg, if_pos rfl, sgGo_at rest r (i + 1) _ (h.of_eq rfl (by rw [segR_len2]; omega)) fun s hm => hs s (List.mem_cons_of_mem _ hm), List.append_assoc]
    rfl
theorem sgFlat_len (L : List Sg) : (L.flatMap segR).length = L.length * 56 := by
  induction L with
  | nil => rfl
  | cons s r ih => rw [List.flatMap_cons, List.length_append, ih, segR_len2, List.length_cons]; omega
theorem sgTab_at {b : BS} {o : Nat} {L : List Sg} (h : At b o (L.flatMap segR)) (hs : ∀ s ∈ L, SgOk s) (hl : L.length ≤ 64) : sgTab b o L.length = (0, L) := by
  unfold sgTab
  rw [if_neg (by omega), h.cut (sgFlat_len L).symm, if_pos rfl]
  exact sgGo_at _ L 0 [] At.self hs
/-! entries -/
theorem dy_step {b : BS} {f at_ t v : Nat} {x : Dy} {seen : List Bool} (h : At b at_ (entB t v)) (ht : t < 18446744073709551616) (hv : v < 18446744073709551616) :
    dyGo b (f + 1) at_ x seen = if t = 0 then (if seenOk seen then (0, x) else (11, dy0)) else if t = 1 then dyGo b f (at_ + 16) { x with need := x.need ++ [v] } seen
      else match tagAt t with
      | none => (11, dy0)
      | some k => if seen.getD k false then (12, dy0) else dyGo b f (at_ + 16) { x with v := x.v.set k v } (seen.set k true) := by
  have hl := h.len
  have hel : (entB t v).length = 16 := by unfold entB; rw [List.length_append, le_len, le_len]
  rw [hel] at hl
  have e0 : getX b at_ (8 : Int) = t := h.left.num (n := 8) (by omega) ht
  have e1 : getX b (at_ + 8) (8 : Int) = v := (h.of_eq (Q := le 8 t) rfl (by rw [le_len])).num (n := 8) (by omega) hv
  conv => lhs; unfold dyGo
  rw [if_neg (by unfold hasB; rw [Bool.and_eq_false_iff, decide_eq_false_iff_not, decide_eq_false_iff_not]; omega), e0, e1]
  rfl
theorem dy_need {b : BS} : ∀ (nd : List Nat) (f at_ : Nat) (x : Dy) (seen : List Bool), At b at_ (nd.flatMap (entB 1)) → (∀ v ∈ nd, v < 18446744073709551616) →
    dyGo b (nd.length + f) at_ x seen = dyGo b f (at_ + 16 * nd.length) { x with need := x.need ++ nd } seen
  | [], f, at_, x, seen, _, _ => by
    rw [List.append_nil, List.length_nil, Nat.zero_add]
    rfl
  | v :: r, f, at_, x, seen, h, hv => by
    rw [List.flatMap_cons] at h
    rw [List.length_cons, show r.length + 1 + f = (r.length + f) + 1 from by omega, dy_step h.left (by decide) (hv v (List.mem_cons_self ..)), if_neg (by decide), if_pos rfl,
      dy_need r f _ _ _ (h.of_eq rfl (by unfold entB; rw [List.length_append, le_len, le_len])) fun w hw => hv w (List.mem_cons_of_mem _ hw), show at_ + 16 + 16 * r.length = at_ + 16 * (r.length + 1) from by omega]
    dsimp only
    rw [List.append_assoc]
    rfl
theorem tag_at : ∀ i, i < 7 → tagAt (tagsL.getD i 0) = some i ∧ tagsL.getD i 0 ≠ 0 ∧ tagsL.getD i 0 ≠ 1 ∧ tagsL.getD i 0 < 18446744073709551616 := by decide
def setV (x : Dy) (p : Nat × Nat) : Dy := { x with v := x.v.set p.1 p.2 }
theorem dy_tags {b : BS} : ∀ (E : List (Nat × Nat)) (f at_ : Nat) (x : Dy) (seen : List Bool), At b at_ (E.flatMap fun p => entB (tagsL.getD p.1 0) p.2) → (∀ p ∈ E, p.1 < 7 ∧ p.2 < 18446744073709551616 ∧ seen.getD p.1 false = false) → (E.map (·.1)).Nodup →
    dyGo b (E.length + f) at_ x seen = dyGo b f (at_ + 16 * E.length) (E.foldl setV x) (E.foldl (fun s p => s.set p.1 true) seen)
  | [], f, at_, x, seen, _, _, _ => by
    rw [List.length_nil, Nat.zero_add]
    rfl
  | p :: r, f, at_, x, seen, h, hv, hnd => by
    rw [List.flatMap_cons] at h
    obtain ⟨h1, h2, h3⟩ := hv p (List.mem_cons_self ..)
    obtain ⟨t1, t2, t3, t4⟩ := tag_at p.1 h1
    rw [List.map_cons, List.nodup_cons] at hnd
    rw [List.length_cons, show r.length + 1 + f = (r.length + f) + 1 from by omega, dy_step h.left t4 h2, if_neg t2, if_neg t3, t1]
    dsimp only
    rw [if_neg (by rw [h3]; decide), dy_tags r f _ _ _ (h.of_eq rfl (by unfold entB; rw [List.length_append, le_len, le_len])) (fun q hq => ?_) hnd.2, show at_ + 16 + 16 * r.length = at_ + 16 * (r.length + 1) from by omega]
    · rfl
    · obtain ⟨g1, g2, g3⟩ := hv q (List.mem_cons_of_mem _ hq)
      refine ⟨g1, g2, ?_⟩
      have hne : p.1 ≠ q.1 := fun e => hnd.1 (List.mem_map.2 ⟨q, hq, e.symm⟩)
      rw [List.getD_eq_getElem?_getD, List.getElem?_set_ne hne, ← List.getD_eq_getElem?_getD]
      exact g3
def entsV (V : List Nat) : List (Nat × Nat) := ((List.range 7).filter fun i => !skipI V i).map fun i => (i, V.getD i 0)
theorem entsV_flat (V : List Nat) : (List.range 7).flatMap (entI V) = (entsV V).flatMap fun p => entB (tagsL.getD p.1 0) p.2 := by
  unfold entsV
  rw [List.flatMap_map]
  generalize List.range 7 = R
  induction R with
  | nil => rfl
  | cons a r ih =>
    rw [List.flatMap_cons, ih, List.filter_cons]
    unfold entI
    cases skipI V a <;> simp
theorem entsV_nd (V : List Nat) : ((entsV V).map (·.1)).Nodup := by
  unfold entsV
  rw [List.map_map]
  have : ((fun x : Nat × Nat => x.1) ∘ fun i => (i, V.getD i 0)) = id := rfl
  rw [this, List.map_id]
  exact List.Nodup.sublist (List.filter_sublist ..) List.nodup_range
/-- what the entries say -/
def outV (V : List Nat) : List Nat := [V.getD 0 0, V.getD 1 0, V.getD 2 0, if V.getD 4 0 = 0 then 0 else V.getD 3 0, V.getD 4 0, if V.getD 6 0 = 0 then 0 else V.getD 5 0, V.getD 6 0]
theorem entsV_fold (V : List Nat) (nd : List Nat) : (entsV V).foldl setV ⟨nd, [0, 0, 0, 0, 0, 0, 0]⟩ = ⟨nd, outV V⟩ ∧ seenOk ((entsV V).foldl (fun s p => s.set p.1 true) [false, false, false, false, false, false, false]) = true := by
  have hr : List.range 7 = [0, 1, 2, 3, 4, 5, 6] := by decide
  unfold entsV outV
  rw [hr]
  by_cases h0 : V.getD 0 0 = 0 <;> by_cases h4 : V.getD 4 0 = 0 <;> by_cases h6 : V.getD 6 0 = 0 <;>
    (refine ⟨?_, ?_⟩ <;> (simp only [skipI, List.filter, h0, h4, h6, setV, seenOk, List.map_cons, List.map_nil, List.foldl_cons, List.foldl_nil, decide_true, decide_false, Bool.and_true, Bool.true_and, Bool.and_false, Bool.false_and, Bool.or_false, Bool.false_or, Bool.not_true, Bool.not_false, Bool.or_true, Bool.true_or, if_true, if_false, eq_self_iff_true, reduceCtorEq, Nat.reduceEqDiff, Nat.reduceLeDiff, or_self, or_true, true_or, or_false, false_or, Nat.le_refl]; first | done | rfl | decide))
theorem dyM_at (nd V : List Nat) (hn : ∀ v ∈ nd, v < 18446744073709551616) (hV : ∀ i, V.getD i 0 < 18446744073709551616) : dyM (infoB nd V) = (0, ⟨nd, outV V⟩) := by
  have hat : At (infoB nd V) 0 (nd.flatMap (entB 1) ++ ((entsV V).flatMap fun p => entB (tagsL.getD p.1 0) p.2) ++ entB 0 0) := by
    rw [← entsV_flat]; exact At.self
  have e16 : ∀ a c, (entB a c).length = 16 := fun a c => by unfold entB; rw [List.length_append, le_len, le_len]
  have hl1 : (nd.flatMap (entB 1)).length = 16 * nd.length := by
    clear hat hn
    induction nd with
    | nil => rfl
    | cons a r ih => rw [List.flatMap_cons, List.length_append, ih, e16, List.length_cons]; omega
  have hl2 : ((entsV V).flatMap fun p => entB (tagsL.getD p.1 0) p.2).length = 16 * (entsV V).length := by
    generalize entsV V = E
    induction E with
    | nil => rfl
    | cons a r ih => rw [List.flatMap_cons, List.length_append, ih, e16, List.length_cons]; omega
  have hlen : (infoB nd V).length = 16 * nd.length + 16 * (entsV V).length + 16 := by
    unfold infoB
    rw [entsV_flat, List.length_append, List.length_append, hl1, hl2, e16]
  unfold dyM
  rw [hlen, show (16 * nd.length + 16 * (entsV V).length + 16) / 16 + 1 = nd.length + ((entsV V).length + (1 + 1)) from by omega]
  rw [dy_need nd _ 0 dy0 _ hat.left.left hn]
  rw [dy_tags (entsV V) (1 + 1) _ _ _ (hat.left.of_eq rfl (by rw [hl1])) (fun p hp => ?_) (entsV_nd V)]
  · obtain ⟨f1, f2⟩ := entsV_fold V nd
    rw [dy_step (hat.of_eq rfl (by rw [List.length_append, hl1, hl2]; omega)) (by decide) (by decide), if_pos rfl]
    have hd : ({ dy0 with need := dy0.need ++ nd } : Dy) = ⟨nd, [0, 0, 0, 0, 0, 0, 0]⟩ := rfl
    rw [hd, f1, f2]
    rfl
  · unfold entsV at hp
    obtain ⟨i, hi, rfl⟩ := List.mem_map.1 hp
    have h7 := List.mem_range.1 (List.mem_filter.1 hi).1
    refine ⟨h7, hV i, ?_⟩
    have : i = 0 ∨ i = 1 ∨ i = 2 ∨ i = 3 ∨ i = 4 ∨ i = 5 ∨ i = 6 := by omega
    rcases this with rfl | rfl | rfl | rfl | rfl | rfl | rfl <;> rfl
end Go.Dm.Ld
namespace Go.Dm.Ld
open Go Go.Dm.Oc
theorem atM_at {t : BS} {p : Nat} {s : BS} (h : At t p (s ++ [0])) (h0 : (0 : UInt8) ∉ s) : atM t p = (0, s) := by
  have hl := h.len
  rw [List.length_append] at hl
  simp only [List.length_cons, List.length_nil] at hl
  obtain ⟨x, y, rfl, rfl⟩ := h
  have hd : (x ++ (s ++ [0]) ++ y).drop x.length = s ++ 0 :: y := by
    rw [List.append_assoc, List.drop_left, List.append_assoc]
    rfl
  unfold atM
  rw [if_neg (by omega), hd, if_pos (by rw [List.contains_iff_mem]; exact List.mem_append_right _ (List.mem_cons_self ..))]
  have htw : ∀ s : BS, (0 : UInt8) ∉ s → (s ++ 0 :: y).takeWhile (· != 0) = s := fun s => by
    induction s with
    | nil => intro _; rfl
    | cons a r ih =>
      intro hn
      have ha : (a != 0) = true := by
        rw [bne_iff_ne]
        exact fun e => hn (e ▸ List.mem_cons_self ..)
      rw [List.cons_append, List.takeWhile_cons, ha, if_pos rfl, ih fun hm => hn (List.mem_cons_of_mem _ hm)]
  rw [htw s h0]
structure TbOk (tb : BS) (D : List (BS × Nat)) : Prop where
  at_ : ∀ p ∈ D, At tb p.2 (p.1 ++ [0])
  zero : At tb 0 [0]
  last : tb.getLast? = some 0
theorem strStep_at {done : List (BS × Nat)} {tb s : BS} (h : TbOk tb done) : TbOk (strStep done tb s).2 (done ++ [(s, (strStep done tb s).1)]) := by
  obtain ⟨h1, h2, h3⟩ := h
  unfold strStep
  split
  · rename_i hs
    subst hs
    refine ⟨fun p hp => ?_, h2, h3⟩
    rcases List.mem_append.1 hp with hp | hp
    · exact h1 p hp
    · rw [List.mem_singleton.1 hp]; exact h2
  · split
    · rename_i p hp
      have hs : p.1 = s := by
        have := List.find?_some hp
        exact eq_of_beq this
      refine ⟨fun q hq => ?_, h2, h3⟩
      rcases List.mem_append.1 hq with hq | hq
      · exact h1 q hq
      · rw [List.mem_singleton.1 hq, ← hs]; exact h1 p (List.mem_of_find?_eq_some hp)
    · refine ⟨fun q hq => ?_, ?_, ?_⟩
      · rcases List.mem_append.1 hq with hq | hq
        · dsimp only
          rw [List.append_assoc]
          exact (h1 q hq).app
        · rw [List.mem_singleton.1 hq]
          dsimp only
          rw [List.append_assoc]
          exact At.end_
      · dsimp only
        rw [List.append_assoc]
        exact h2.app
      · dsimp only
        rw [List.getLast?_append]
        rfl
theorem strGo_at : ∀ (l : List BS) (done : List (BS × Nat)) (tb : BS), TbOk tb done → TbOk (strGo l done tb).2 (strGo l done tb).1 ∧ (strGo l done tb).1.map (·.1) = done.map (·.1) ++ l
  | [], done, tb, h => ⟨h, by rw [List.append_nil]; rfl⟩
  | s :: r, done, tb, h => by
    have ih := strGo_at r _ _ (strStep_at (s := s) h)
    refine ⟨ih.1, ?_⟩
    have h2 : (strGo (s :: r) done tb).1.map (·.1) = _ := ih.2
    rw [h2, List.map_append, List.append_assoc]
    rfl
theorem strM_at {l : List BS} (h : (strM l).1 = 0) : ∃ D : List (BS × Nat), D.map (·.1) = l ∧ (strM l).2.2 = D.map (·.2) ∧ TbOk (strM l).2.1 D ∧ (∀ p ∈ D, (0 : UInt8) ∉ p.1) ∧ (strM l).2.1.length ≤ 65536 := by
  have h0 : TbOk [0] [] := ⟨fun p hp => (by cases hp), At.self, rfl⟩
  obtain ⟨h1, h2⟩ := strGo_at l [] [0] h0
  unfold strM at *
  split at h
  · cases h
  · rename_i hz
    rw [if_neg hz]
    split at h
    · cases h
    · rename_i hl
      rw [if_neg hl]
      refine ⟨(strGo l [] [0]).1, h2, rfl, h1, fun p hp hm => hz ?_, by show (strGo l [] [0]).2.length ≤ 65536; omega⟩
      have hp2 : p.1 ∈ l := by
        have h3 : (strGo l [] [0]).1.map (·.1) = l := h2
        rw [← h3]
        exact List.mem_map.2 ⟨p, hp, rfl⟩
      exact List.any_eq_true.2 ⟨p.1, hp2, List.contains_iff_mem.2 hm⟩
theorem TbOk.atM {tb : BS} {D : List (BS × Nat)} (h : TbOk tb D) (h0 : ∀ p ∈ D, (0 : UInt8) ∉ p.1) {p : BS × Nat} (hp : p ∈ D) : atM tb p.2 = (0, p.1) := atM_at (h.at_ p hp) (h0 p hp)
theorem TbOk.pos {tb : BS} {D : List (BS × Nat)} (h : TbOk tb D) {p : BS × Nat} (hp : p ∈ D) (h0 : (0 : UInt8) ∉ p.1) (hz : p.2 = 0) : p.1 = [] := by
  obtain ⟨x, y, e, hx⟩ := h.at_ p hp
  obtain ⟨x2, y2, e2, hx2⟩ := h.zero
  rw [hz] at hx
  have hx := List.length_eq_zero_iff.1 hx
  have hx2 := List.length_eq_zero_iff.1 hx2
  subst hx hx2
  rw [e] at e2
  cases hp1 : p.1 with
  | nil => rfl
  | cons a r =>
    rw [hp1] at e2 h0
    injection e2 with e3 e4
    exact absurd (e3 ▸ List.mem_cons_self ..) h0
theorem TbOk.chk {tb : BS} {D : List (BS × Nat)} (h : TbOk tb D) : chkN tb = 0 := by
  obtain ⟨x, y, e, hx⟩ := h.zero
  have hx := List.length_eq_zero_iff.1 hx
  unfold chkN
  rw [if_pos ⟨by rw [e, hx]; rfl, h.last⟩]
theorem needGo_at {t : BS} : ∀ (Z : List (BS × Nat)) (acc : List BS), (∀ z ∈ Z, atM t z.2 = (0, z.1) ∧ z.1 ≠ []) → needGo t (Z.map (·.2)) acc = (0, acc ++ Z.map (·.1))
  | [], acc, _ => by rw [List.map_nil, List.map_nil, List.append_nil]; rfl
  | z :: r, acc, h => by
    obtain ⟨h1, h2⟩ := h z (List.mem_cons_self ..)
    rw [List.map_cons, List.map_cons]
    unfold needGo
    rw [h1]
    dsimp only
    rw [if_neg (fun h => h rfl), if_neg h2, needGo_at r _ fun z hz => h z (List.mem_cons_of_mem _ hz), List.append_assoc]
    rfl
theorem nmGo_at {t : BS} : ∀ (Z : List (BS × Sy)) (acc : List BS), (∀ z ∈ Z, atM t z.2.nm = (0, z.1)) → nmGo t (Z.map (·.2)) acc = (0, acc ++ Z.map (·.1))
  | [], acc, _ => by rw [List.map_nil, List.map_nil, List.append_nil]; rfl
  | z :: r, acc, h => by
    have h1 := h z (List.mem_cons_self ..)
    rw [List.map_cons, List.map_cons]
    unfold nmGo
    rw [h1]
    dsimp only
    rw [if_neg (fun h => h rfl), nmGo_at r _ fun z hz => h z (List.mem_cons_of_mem _ hz), List.append_assoc]
    rfl
theorem soM_at {t : BS} {D : List (BS × Nat)} (h : TbOk t D) (h0 : ∀ p ∈ D, (0 : UInt8) ∉ p.1) {p : BS × Nat} (hp : p ∈ D) : soM t p.2 = (0, p.1) := by
  unfold soM
  split
  · rename_i hz
    rw [h.pos hp (h0 p hp) hz]
  · exact h.atM h0 hp
end Go.Dm.Ld
namespace Go.Dm.Ld
open Go Go.Dm.Oc
theorem padM_up8 (l : BS) : (padM l 8).length = upM l.length 8 := by
  unfold padM upM
  rw [List.length_append, List.length_replicate]
  omega
theorem padM_up256 (l : BS) : (padM l 256).length = upM l.length 256 := by
  unfold padM upM
  rw [List.length_append, List.length_replicate]
  omega
theorem At.pad {b P : BS} {o n : Nat} (h : At b o P) : At (padM b n) o P := by unfold padM; exact h.app
theorem infoB_len2 (nd V W : List Nat) (h0 : V.getD 0 0 = W.getD 0 0) (h4 : V.getD 4 0 = W.getD 4 0) (h6 : V.getD 6 0 = W.getD 6 0) : (infoB nd V).length = (infoB nd W).length := by
  have h : ∀ i, (entI V i).length = (entI W i).length := fun i => by
    have hsk : skipI V i = skipI W i := by
      unfold skipI
      rw [h4, h6]
      by_cases hi : i = 0
      · rw [hi, h0]
      · rw [decide_eq_false hi, Bool.false_and, Bool.false_and]
    unfold entI
    rw [hsk]
    split
    · rfl
    · unfold entB
      simp only [List.length_append, le_len]
  unfold infoB
  rw [List.length_append, List.length_append, List.length_append, List.length_append, List.length_flatMap (f := entI V), List.length_flatMap (f := entI W)]
  congr 3
  exact List.map_congr_left fun i _ => h i
structure LayF (s : Sp) (tl : Nat) (ats : List Nat) (y : Lay) : Prop where
  count : y.count = 2 + (if s.code.isEmpty then 0 else 1) + (if hasDB s then 1 else 0) + (if hasTB s then 1 else 0)
  dyn : y.dyn = 64 + 56 * y.count
  v : y.v = [ats.getD 0 0, y.dyn + y.size, tl, upM (y.dyn + y.size + tl) 8, if s.defs.isEmpty then 0 else s.defs.length + 1, upM (y.dyn + y.size + tl) 8 + 24 * (if s.defs.isEmpty then 0 else s.defs.length + 1), 24 * s.fixes.length]
  size : y.size = (infoB ((ats.drop 1).take s.need.length) y.v).length
  last : y.last = upM (y.dyn + y.size + tl) 8 + 24 * (if s.defs.isEmpty then 0 else s.defs.length + 1) + 24 * s.fixes.length
  code : y.code = upM y.last 256
  data : y.data = upM (y.code + s.code.length) 256
  tls : y.tls = upM (y.data + s.data.length) 8
theorem layM_f (s : Sp) (tl : Nat) (ats : List Nat) : LayF s tl ats (layM s tl ats) :=
  ⟨rfl, rfl, rfl, infoB_len2 _ _ _ rfl rfl rfl, rfl, rfl, rfl, rfl⟩
structure BodyAt (s : Sp) (y : Lay) (tb : BS) (ats : List Nat) (o : BS) : Prop where
  a : At o 0 (headsM s y ++ infoB ((ats.drop 1).take s.need.length) y.v ++ tb)
  sy : s.defs ≠ [] → At o (y.v.getD 3 0) (List.replicate 24 0 ++ ((ats.drop (1 + s.need.length)).zip s.defs).flatMap fun p => symR (symOf y p.1 p.2))
  rl : At o (y.v.getD 5 0) (s.fixes.flatMap fun f => relR (relOf y f))
  code : s.code ≠ [] → At o y.code s.code
  data : s.data ≠ [] → At o y.data s.data
  tls : s.tls ≠ [] → At o y.tls s.tls
theorem isEmpty_false {α : Type} {l : List α} (h : l ≠ []) : l.isEmpty = false := by cases l <;> simp_all
theorem At.endC {s : Sp} {b P : BS} {o : Nat} (h : At b o P) : At (endC s b) o P := by
  unfold Ld.endC
  split
  · exact h
  · exact h.pad.app
theorem At.endD {s : Sp} {b P : BS} {o : Nat} (h : At b o P) : At (endD s b) o P := by
  unfold Ld.endD
  split
  · exact h
  · exact h.pad.app
theorem At.endT {s : Sp} {y : Lay} {b P : BS} {o : Nat} (h : At b o P) : At (endT s y b) o P := by
  unfold Ld.endT
  split
  · exact h
  · exact h.app.app
theorem headsM_len (s : Sp) (y : Lay) : (headsM s y).length = 64 + 56 * (2 + (if s.code.isEmpty then 0 else 1) + (if hasDB s then 1 else 0) + (if hasTB s then 1 else 0)) := by
  unfold headsM
  simp only [List.length_append, headB_len, segR_len2]
  cases s.code.isEmpty <;> cases hasDB s <;> cases hasTB s <;> simp [segR_len2]
theorem bodyM_at {s : Sp} {y : Lay} {tb : BS} {ats : List Nat} (hy : LayF s tb.length ats y) (hal : ats.length = 1 + s.need.length + s.defs.length) : BodyAt s y tb ats (bodyM s y tb ats) := by
  obtain ⟨y1, y2, y3, y4, y5, y6, y7, y8⟩ := hy
  rw [bodyM_end]
  unfold endM tailM endsM
  obtain ⟨A, hA⟩ : ∃ A, A = padM (headsM s y ++ infoB ((ats.drop 1).take s.need.length) y.v ++ tb) 8 := ⟨_, rfl⟩
  obtain ⟨S, hS⟩ : ∃ S, S = ((ats.drop (1 + s.need.length)).zip s.defs).flatMap fun p => symR (symOf y p.1 p.2) := ⟨_, rfl⟩
  obtain ⟨R, hR⟩ : ∃ R, R = s.fixes.flatMap fun f => relR (relOf y f) := ⟨_, rfl⟩
  have hSl : S.length = 24 * s.defs.length := by
    rw [hS, flat24 _ (fun _ => symR_len _), List.length_zip, List.length_drop, hal]
    omega
  have hRl : R.length = 24 * s.fixes.length := by rw [hR, flat24 _ (fun _ => relR_len _)]
  have hAl : A.length = upM (y.dyn + y.size + tb.length) 8 := by
    rw [hA, padM_up8, List.length_append, List.length_append, headsM_len, ← y1, ← y2, ← y4]
  have hA0 : At A 0 (headsM s y ++ infoB ((ats.drop 1).take s.need.length) y.v ++ tb) := by rw [hA]; exact At.self.pad
  rw [← hA, ← hS, ← hR]
  have e3 : y.v.getD 3 0 = A.length := by rw [y3, hAl]; rfl
  have hdl : s.defs.isEmpty = true ∧ s.defs.length = 0 ∨ s.defs.isEmpty = false ∧ s.defs ≠ [] := by cases s.defs <;> simp
  obtain ⟨Z, hZ⟩ : ∃ Z : BS, Z = if s.defs.isEmpty then [] else List.replicate 24 0 := ⟨_, rfl⟩
  have hZl : Z.length + S.length = 24 * (if s.defs.isEmpty then 0 else s.defs.length + 1) := by
    rw [hZ, hSl]
    rcases hdl with ⟨h1, h2⟩ | ⟨h1, h2⟩
    · rw [h1, if_pos rfl, if_pos rfl, h2]; rfl
    · rw [h1, if_neg (by decide), if_neg (by decide), List.length_replicate]; omega
  have e5 : y.v.getD 5 0 = (A ++ Z ++ S).length := by
    rw [List.length_append, List.length_append, Nat.add_assoc, hZl, y3, hAl]; rfl
  rw [← hZ]
  obtain ⟨B, hB⟩ : ∃ B, B = A ++ Z ++ S ++ R := ⟨_, rfl⟩
  have hBl : B.length = y.last := by
    rw [hB, List.length_append, List.length_append, List.length_append, hRl, y5, ← hAl]
    omega
  have b1 : At B 0 (headsM s y ++ infoB ((ats.drop 1).take s.need.length) y.v ++ tb) := by rw [hB]; exact hA0.app.app.app
  have b2 : At B A.length (Z ++ S) := by rw [hB, List.append_assoc A Z S]; exact At.end_.app
  have b3 : At B (A ++ Z ++ S).length R := by rw [hB]; exact At.end_
  rw [← hB]
  obtain ⟨C, hC⟩ : ∃ C, C = endC s B := ⟨_, rfl⟩
  have hCl : C.length = (if s.code.isEmpty then y.last else y.code + s.code.length) ∧ (s.code ≠ [] → At C y.code s.code) := by
    rw [hC]
    unfold endC
    rcases (by cases s.code <;> simp : s.code.isEmpty = true ∧ s.code = [] ∨ s.code.isEmpty = false ∧ s.code ≠ []) with ⟨h1, h2⟩ | ⟨h1, h2⟩
    · rw [h1, if_pos rfl, if_pos rfl]
      exact ⟨hBl, fun h => absurd h2 h⟩
    · rw [h1, if_neg (by decide), if_neg (by decide)]
      have hp : (padM B 256).length = y.code := by rw [padM_up256, hBl, y6]
      refine ⟨by rw [List.length_append, hp], fun _ => ?_⟩
      rw [← hp]
      exact At.end_
  obtain ⟨D, hD⟩ : ∃ D, D = endD s C := ⟨_, rfl⟩
  have hCd : upM C.length 256 = y.data ∧ C.length ≤ y.data := by
    rcases (by cases s.code <;> simp : s.code.isEmpty = true ∧ s.code.length = 0 ∨ s.code.isEmpty = false ∧ s.code ≠ []) with ⟨h1, h2⟩ | ⟨h1, h2⟩
    · rw [hCl.1, h1, if_pos rfl, y7, h2, y6]
      unfold upM
      omega
    · rw [hCl.1, h1, if_neg (by decide), y7]
      refine ⟨rfl, ?_⟩
      unfold upM
      omega
  have hDl : D.length ≤ y.data + s.data.length ∧ (s.data ≠ [] → At D y.data s.data) := by
    rw [hD]
    unfold endD
    rcases (by cases s.data <;> simp : s.data.isEmpty = true ∧ s.data = [] ∨ s.data.isEmpty = false ∧ s.data ≠ []) with ⟨h1, h2⟩ | ⟨h1, h2⟩
    · rw [h1, if_pos rfl]
      exact ⟨by omega, fun h => absurd h2 h⟩
    · rw [h1, if_neg (by decide)]
      have hp : (padM C 256).length = y.data := by rw [padM_up256, hCd.1]
      refine ⟨by rw [List.length_append, hp]; exact Nat.le_refl _, fun _ => ?_⟩
      rw [← hp]
      exact At.end_
  have hT : s.tls ≠ [] → At (endT s y D) y.tls s.tls := fun h => by
    unfold endT
    rw [isEmpty_false h, if_neg (by decide)]
    have hp : (D ++ List.replicate (y.tls - D.length) 0).length = y.tls := by
      rw [List.length_append, List.length_replicate]
      have : y.data + s.data.length ≤ y.tls := by rw [y8]; unfold upM; omega
      omega
    have := At.end_ (b := D ++ List.replicate (y.tls - D.length) 0) (Q := s.tls)
    rw [hp] at this
    exact this
  rw [← hC, ← hD]
  refine ⟨?_, fun h => ?_, ?_, fun h => ?_, fun h => (hDl.2 h).endT, hT⟩
  · rw [hD, hC]; exact b1.endC.endD.endT
  · rw [e3, ← hS, hD, hC]
    have := b2.endC (s := s) |>.endD (s := s) |>.endT (s := s) (y := y)
    rw [hZ, isEmpty_false h, if_neg (by decide)] at this
    exact this
  · rw [e5, ← hR, hD, hC]; exact b3.endC.endD.endT
  · rw [hD]; exact (hCl.2 h).endD.endT
end Go.Dm.Ld
namespace Go.Dm.Ld
open Go Go.Dm.Oc
def sg1 (y : Lay) : Sg := ⟨1, 4, 0, 0, y.last, y.last, 256⟩
def sgC (s : Sp) (y : Lay) : Sg := ⟨1, 5, y.code, y.code, s.code.length, s.code.length, 256⟩
def sgD (s : Sp) (y : Lay) : Sg := ⟨1, 6, if dataN s y = 0 then 0 else y.data, y.data, dataN s y, dataN s y + s.bss, 256⟩
def sgN (y : Lay) : Sg := ⟨2, 4, y.dyn, y.dyn, y.size, y.size, 8⟩
def sgT (s : Sp) (y : Lay) : Sg := ⟨7, 4, if s.tls.isEmpty then 0 else y.tls, if s.tls.isEmpty then 0 else y.tls, s.tls.length, s.tls.length + s.tbss, 8⟩
def segsM (s : Sp) (y : Lay) : List Sg := sg1 y :: ((if s.code.isEmpty then [] else [sgC s y]) ++ ((if hasDB s then [sgD s y] else []) ++ (sgN y :: (if hasTB s then [sgT s y] else []))))
theorem headsM_segs (s : Sp) (y : Lay) : headsM s y = headB ⟨s.kind.toNat, if s.code.isEmpty then 0 else (y.code + s.entry) % 18446744073709551616, 64, y.count⟩ ++ (segsM s y).flatMap segR := by
  unfold headsM segsM sg1 sgC sgD sgN sgT
  cases hasDB s <;> cases hasTB s <;> cases s.code.isEmpty <;> simp only [List.flatMap_cons, List.flatMap_append, List.flatMap_nil, List.append_nil, List.nil_append, List.append_assoc, if_true, if_false, Bool.false_eq_true, List.cons_append]
theorem segsM_len (s : Sp) (y : Lay) : (segsM s y).length = 2 + (if s.code.isEmpty then 0 else 1) + (if hasDB s then 1 else 0) + (if hasTB s then 1 else 0) := by
  unfold segsM
  cases hasDB s <;> cases hasTB s <;> cases s.code.isEmpty <;> rfl
theorem segsM_mem {s : Sp} {y : Lay} {x : Sg} (h : x ∈ segsM s y) : x = sg1 y ∨ (s.code ≠ [] ∧ x = sgC s y) ∨ (hasDB s = true ∧ x = sgD s y) ∨ x = sgN y ∨ (hasTB s = true ∧ x = sgT s y) := by
  unfold segsM at h
  rcases List.mem_cons.1 h with h | h
  · exact .inl h
  rcases List.mem_append.1 h with h | h
  · refine .inr (.inl ?_)
    rcases (by cases s.code <;> simp : s.code.isEmpty = true ∨ s.code.isEmpty = false ∧ s.code ≠ []) with e | ⟨e, hne⟩
    · rw [e, if_pos rfl] at h; cases h
    · rw [e, if_neg (by decide)] at h
      exact ⟨hne, List.mem_singleton.1 h⟩
  rcases List.mem_append.1 h with h | h
  · refine .inr (.inr (.inl ?_))
    split at h
    · rename_i hd; exact ⟨hd, List.mem_singleton.1 h⟩
    · cases h
  rcases List.mem_cons.1 h with h | h
  · exact .inr (.inr (.inr (.inl h)))
  · refine .inr (.inr (.inr (.inr ?_)))
    split at h
    · rename_i hd; exact ⟨hd, List.mem_singleton.1 h⟩
    · cases h
theorem sgN_ty (y : Lay) : (sgN y).ty = 2 := rfl
theorem sgT_ty (s : Sp) (y : Lay) : (sgT s y).ty = 7 := rfl
theorem chkA_load {size bh : Nat} {pre r : List Sg} {s : Sg} (h1 : oneE s size = 0) (h2 : s.ty = 1) (h3 : bh ≤ firstM s) : chkA size pre bh (s :: r) = chkA size (pre ++ [s]) (lastM s) r := by
  conv => lhs; unfold chkA
  have hs : singleB s = false := by unfold singleB; rw [h2]; rfl
  rw [if_neg (fun h => h h1), hs, if_neg (fun h => by cases h.1), if_pos h2, if_neg (by omega)]
theorem chkA_other {size bh : Nat} {pre r : List Sg} {s : Sg} (h1 : oneE s size = 0) (h2 : s.ty ≠ 1) (h3 : ∀ x ∈ pre, x.ty ≠ s.ty) : chkA size pre bh (s :: r) = chkA size (pre ++ [s]) bh r := by
  conv => lhs; unfold chkA
  have hs : pre.any (fun x => x.ty == s.ty) = false := by
    rw [List.any_eq_false]
    intro x hx h
    exact h3 x hx (eq_of_beq h)
  rw [if_neg (fun h => h h1), hs, if_neg (fun h => by cases h.2), if_neg h2]
/-- what is known of a built file's places -/
structure Sane (s : Sp) (y : Lay) (n : Nat) : Prop where
  dyn : y.dyn = 64 + 56 * y.count
  dl : y.dyn + y.size ≤ y.last
  sz : 0 < y.size
  ln : y.last ≤ n
  n16 : n ≤ 65536
  code : y.code = (y.last + 255) / 256 * 256
  data : y.data = (y.code + s.code.length + 255) / 256 * 256
  tls : y.tls = (y.data + s.data.length + 7) / 8 * 8
  cn : s.code ≠ [] → y.code + s.code.length ≤ n
  dn : s.data ≠ [] → y.data + s.data.length ≤ n
  tn : s.tls ≠ [] → y.tls + s.tls.length ≤ n
  cl : s.code.length ≤ 65536
  dtl : s.data.length ≤ 65536
  tl : s.tls.length ≤ 65536
  bss : s.bss ≤ 1048576
  tbss : s.tbss ≤ 1048576
section
variable {s : Sp} {y : Lay} {n : Nat}
theorem len0 {α : Type} {l : List α} : l.length = 0 ↔ l = [] := List.length_eq_zero_iff
theorem hasDB_iff : hasDB s = true ↔ (0 < s.data.length ∨ 0 < s.tls.length ∨ 0 < s.bss) := by
  unfold hasDB
  cases s.data <;> cases s.tls <;> simp
theorem hasTB_iff : hasTB s = true ↔ (0 < s.tls.length ∨ 0 < s.tbss) := by
  unfold hasTB
  cases s.tls <;> simp
theorem dataN_eq : dataN s y = if s.tls.length = 0 then s.data.length else y.tls + s.tls.length - y.data := by
  unfold dataN
  cases s.tls <;> rfl
theorem Sane.dataN (h : Sane s y n) : Ld.dataN s y ≤ 262144 ∧ (Ld.dataN s y ≠ 0 → y.data + Ld.dataN s y ≤ n) ∧ (0 < s.data.length ∨ 0 < s.tls.length → 0 < Ld.dataN s y) := by
  have h1 := h.dn
  have h2 := h.tn
  have h3 := h.tls
  have h4 := h.dtl
  have h5 := h.tl
  have h6 := h.n16
  rw [dataN_eq]
  split
  · rename_i ht
    refine ⟨by omega, fun h0 => h1 fun e => h0 (by rw [e]; rfl), by omega⟩
  · rename_i ht
    have := h2 fun e => ht (by rw [e]; rfl)
    refine ⟨by omega, fun _ => by omega, fun _ => by omega⟩
theorem Sane.ok (h : Sane s y n) (hc : y.count ≤ 5) : ∀ x ∈ segsM s y, SgOk x ∧ oneE x n = 0 := by
  obtain ⟨d1, d2, d3⟩ := h.dataN
  obtain ⟨a1, a2, a3, a4, a5, a6, a7, a8, a9, a10, a11, a12, a13, a14, a15, a16⟩ := h
  intro x hx
  rcases segsM_mem hx with rfl | ⟨hne, rfl⟩ | ⟨hd, rfl⟩ | rfl | ⟨ht, rfl⟩
  · unfold sg1 SgOk oneE kindB
    dsimp only
    refine ⟨by omega, ?_⟩
    rw [if_neg (by simp), if_neg (by omega), if_neg (by omega), if_neg (by omega), if_neg (by omega), if_neg (by omega)]
  · have hcl : 0 < s.code.length := Nat.pos_of_ne_zero fun e => hne (len0.1 e)
    have := a9 hne
    unfold sgC SgOk oneE kindB
    dsimp only
    refine ⟨by omega, ?_⟩
    rw [if_neg (by simp), if_neg (by omega), if_neg (by omega), if_neg (by omega), if_neg (by omega), if_neg (by omega)]
  · have hd2 := hasDB_iff.1 hd
    unfold sgD SgOk oneE kindB
    generalize Ld.dataN s y = dn at *
    dsimp only
    by_cases h0 : dn = 0
    · subst h0
      rw [if_pos rfl]
      refine ⟨by omega, ?_⟩
      rw [if_neg (by simp), if_neg (by omega), if_neg (by omega), if_neg (by omega), if_neg (by omega), if_neg (by omega)]
    · rw [if_neg h0]
      have := d2 h0
      refine ⟨by omega, ?_⟩
      rw [if_neg (by simp), if_neg (by omega), if_neg (by omega), if_neg (by omega), if_neg (by omega), if_neg (by omega)]
  · unfold sgN SgOk oneE kindB
    dsimp only
    refine ⟨by omega, ?_⟩
    rw [if_neg (by simp), if_neg (by omega), if_neg (by omega), if_neg (by omega), if_neg (by omega), if_neg (by omega)]
  · unfold sgT SgOk oneE kindB
    dsimp only
    cases htl : s.tls with
    | nil =>
      rw [htl] at a14
      simp only [List.isEmpty_nil, if_true, List.length_nil]
      refine ⟨by omega, ?_⟩
      rw [if_neg (by simp), if_neg (by omega), if_neg (by omega), if_neg (by omega), if_neg (by omega), if_neg (by omega)]
    | cons a r =>
      have h2 := a11 (by rw [htl]; simp)
      rw [htl] at h2 a14
      simp only [List.isEmpty_cons, Bool.false_eq_true, if_false]
      generalize (a :: r).length = k at *
      refine ⟨by omega, ?_⟩
      rw [if_neg (by simp), if_neg (by omega), if_neg (by omega), if_neg (by omega), if_neg (by omega), if_neg (by omega)]
theorem Sane.chkA (h : Sane s y n) (hc : y.count ≤ 5) : Ld.chkA n [] 0 (segsM s y) = 0 := by
  have hok := fun x hx => (h.ok hc x hx).2
  obtain ⟨a1, a2, a3, a4, a5, a6, a7, a8, a9, a10, a11, a12, a13, a14, a15, a16⟩ := h
  have m1 : sg1 y ∈ segsM s y := List.mem_cons_self ..
  have mN : sgN y ∈ segsM s y := List.mem_cons_of_mem _ (List.mem_append_right _ (List.mem_append_right _ (List.mem_cons_self ..)))
  have mC : s.code.isEmpty = false → sgC s y ∈ segsM s y := fun e => by
    unfold segsM
    rw [e, if_neg (by decide)]
    exact List.mem_cons_of_mem _ (List.mem_append_left _ (List.mem_cons_self ..))
  have mD : hasDB s = true → sgD s y ∈ segsM s y := fun e => by
    unfold segsM
    rw [e, if_pos rfl]
    exact List.mem_cons_of_mem _ (List.mem_append_right _ (List.mem_append_left _ (List.mem_cons_self ..)))
  have mT : hasTB s = true → sgT s y ∈ segsM s y := fun e => by
    unfold segsM
    rw [e, if_pos rfl]
    exact List.mem_cons_of_mem _ (List.mem_append_right _ (List.mem_append_right _ (List.mem_cons_of_mem _ (List.mem_cons_self ..))))
  have l1 : lastM (sg1 y) = y.code := by unfold lastM sg1; dsimp only; omega
  have fC : firstM (sgC s y) = y.code := by unfold firstM sgC; dsimp only; omega
  have lC : lastM (sgC s y) = y.data := by unfold lastM sgC; dsimp only; omega
  have fD : firstM (sgD s y) = y.data := by unfold firstM sgD; dsimp only; omega
  have tail : ∀ pre bh, (∀ x ∈ pre, x.ty = 1) → Ld.chkA n pre bh (sgN y :: (if hasTB s then [sgT s y] else [])) = 0 := fun pre bh hp => by
    rw [chkA_other (hok _ mN) (by rw [sgN_ty]; decide) fun x hx => by rw [hp x hx, sgN_ty]; decide]
    cases ht : hasTB s with
    | false => rfl
    | true =>
      rw [if_pos rfl, chkA_other (hok _ (mT ht)) (by rw [sgT_ty]; decide) fun x hx => by
        rcases List.mem_append.1 hx with hx | hx
        · rw [hp x hx, sgT_ty]; decide
        · rw [List.mem_singleton.1 hx, sgN_ty, sgT_ty]; decide]
      rfl
  have mid : ∀ pre bh, bh ≤ y.data → (∀ x ∈ pre, x.ty = 1) → Ld.chkA n pre bh ((if hasDB s then [sgD s y] else []) ++ (sgN y :: (if hasTB s then [sgT s y] else []))) = 0 := fun pre bh hb hp => by
    cases hd : hasDB s with
    | false => exact tail _ _ hp
    | true =>
      rw [if_pos rfl, List.cons_append, chkA_load (hok _ (mD hd)) rfl (by omega), List.nil_append]
      refine tail _ _ fun x hx => ?_
      rcases List.mem_append.1 hx with hx | hx
      · exact hp x hx
      · rw [List.mem_singleton.1 hx]; rfl
  unfold segsM at hok ⊢
  rw [chkA_load (hok _ (List.mem_cons_self ..)) rfl (Nat.zero_le _), l1]
  have hp : ∀ x ∈ [] ++ [sg1 y], x.ty = 1 := fun x hx => by rw [List.mem_singleton.1 hx]; rfl
  cases hce : s.code.isEmpty with
  | true =>
    have hcl : s.code.length = 0 := len0.2 (List.isEmpty_iff.1 hce)
    rw [if_pos rfl, List.nil_append]
    exact mid _ _ (by omega) hp
  | false =>
    rw [if_neg (by decide), List.cons_append, chkA_load (by have := mC hce; unfold segsM at this; exact hok _ this) rfl (by omega), List.nil_append, lC]
    refine mid _ _ (Nat.le_refl _) fun x hx => ?_
    rcases List.mem_append.1 hx with hx | hx
    · exact hp x hx
    · rw [List.mem_singleton.1 hx]; rfl
theorem Sane.chkE (h : Sane s y n) (hc : y.count ≤ 5) : Ld.chkE (segsM s y) n = 0 := by
  have hd := h.dataN
  have hA := h.chkA hc
  obtain ⟨a1, a2, a3, a4, a5, a6, a7, a8, a9, a10, a11, a12, a13, a14, a15, a16⟩ := h
  unfold Ld.chkE
  rw [if_neg (fun e => e hA), if_neg]
  rw [Bool.not_eq_true, List.any_eq_false]
  intro x hx hb
  rw [Bool.and_eq_true, Bool.not_eq_true'] at hb
  obtain ⟨hb1, hb2⟩ := hb
  unfold withinB at hb2
  rw [Bool.or_eq_false_iff, decide_eq_false_iff_not, List.any_eq_false] at hb2
  obtain ⟨hf, hb2⟩ := hb2
  rcases segsM_mem hx with rfl | ⟨hne, rfl⟩ | ⟨_, rfl⟩ | rfl | ⟨ht, rfl⟩
  · unfold singleB sg1 at hb1; simp at hb1
  · unfold singleB sgC at hb1; simp at hb1
  · unfold singleB sgD at hb1; simp at hb1
  · refine hb2 (sg1 y) (List.mem_cons_self ..) ?_
    unfold liesB sg1 sgN
    dsimp only
    rw [decide_eq_true_eq]
    refine ⟨rfl, Nat.zero_le _, ?_, ?_, ?_⟩
    · omega
    · omega
    · rw [Nat.zero_add, Nat.add_zero]
  · have htl : s.tls ≠ [] := fun e => hf (by unfold sgT; rw [e]; rfl)
    have htl2 : 0 < s.tls.length := Nat.pos_of_ne_zero fun e => htl (len0.1 e)
    have hdb : hasDB s = true := hasDB_iff.2 (.inr (.inl htl2))
    have mD : sgD s y ∈ segsM s y := by
      unfold segsM
      rw [hdb, if_pos rfl]
      exact List.mem_cons_of_mem _ (List.mem_append_right _ (List.mem_append_left _ (List.mem_cons_self ..)))
    refine hb2 (sgD s y) mD ?_
    have hdn := hd.2.2 (.inr htl2)
    have hde : Ld.dataN s y = y.tls + s.tls.length - y.data := by rw [dataN_eq, if_neg (by omega)]
    unfold liesB sgD sgT
    dsimp only
    rw [if_neg (by omega), isEmpty_false htl, if_neg (by decide), decide_eq_true_eq, hde]
    refine ⟨rfl, by omega, by omega, by omega, ?_⟩
    rw [Nat.add_comm]
theorem findM_1 : findM (segsM s y) 1 ≠ none := by
  unfold findM segsM
  rw [List.find?_cons]
  intro h
  cases h
theorem findM_2 : findM (segsM s y) 2 = some (sgN y) := by
  unfold findM segsM
  cases hasDB s <;> cases s.code.isEmpty <;> rfl
theorem findM_7 : findM (segsM s y) 7 = if hasTB s then some (sgT s y) else none := by
  unfold findM segsM
  cases hasDB s <;> cases s.code.isEmpty <;> cases hasTB s <;> rfl
theorem placeM_at {a m : Nat} (hm : 0 < m) (h : a + m ≤ y.last) : placeM (segsM s y) a m = (0, a) := by
  unfold segsM
  unfold placeM
  rw [if_pos]
  · show (0, 0 + (a - 0)) = (0, a)
    rw [Nat.zero_add, Nat.sub_zero]
  · unfold holdsB sg1
    dsimp only
    rw [decide_eq_true_eq]
    refine ⟨hm, rfl, Nat.zero_le _, ?_, ?_⟩
    · omega
    · omega
theorem atI_at {b P : BS} {a m : Nat} (hP : At b a P) (hm : m = P.length) (h0 : 0 < m) (h : a + m ≤ y.last) : atI b (segsM s y) a m = (0, P) := by
  unfold atI
  rw [placeM_at h0 h, if_pos rfl, hP.cut hm]
end
end Go.Dm.Ld
namespace Go.Dm.Ld
open Go Go.Dm.Oc Go.Proofs.Ytbnahidopemkiaa
theorem flat_at {α : Type} (f : α → BS) (hf : ∀ x, (f x).length = 24) : ∀ (L : List α) (i : Nat) (h : i < L.length), At (L.flatMap f) (24 * i) (f L[i])
  | a :: r, 0, h => by
    rw [List.flatMap_cons]
    exact At.self.left
  | a :: r, i + 1, h => by
    rw [List.flatMap_cons]
    have h2 := flat_at f hf r i (Nat.lt_of_succ_lt_succ h)
    have h3 := (At.end_ (b := f a) (Q := r.flatMap f)).sub h2
    rw [hf] at h3
    rw [show 24 * (i + 1) = 24 + 24 * i from by omega]
    exact h3
theorem syIn_at {c : BS} {o : Nat} {x : Sy} (h : At c o (symR x)) (hx : SyOk x) : syIn c o = x := by
  obtain ⟨h1, h2, h3, h4, h5, h6⟩ := hx
  have e0 : getX c o (4 : Int) = x.nm := h.left.left.left.left.num (n := 4) (by omega) h1
  have q1 : At c (o + 4) ([UInt8.ofNat x.inf] ++ [UInt8.ofNat x.oth]) := h.left.left.left.of_eq rfl (by rw [le_len])
  have e1 : getX c (o + 4) (1 : Int) = x.inf := by
    have := q1.left.raw (n := 1) rfl (by omega)
    rw [show ((1 : Int)) = ((1 : Nat) : Int) from rfl, this]
    simp only [leN, UInt8.toNat_ofNat', Nat.mul_zero, Nat.add_zero]
    exact Nat.mod_eq_of_lt h2
  have e2 : getX c (o + 5) (1 : Int) = x.oth := by
    have := (q1.of_eq (k := o + 5) rfl rfl).raw (n := 1) rfl (by omega)
    rw [show ((1 : Int)) = ((1 : Nat) : Int) from rfl, this]
    simp only [leN, UInt8.toNat_ofNat', Nat.mul_zero, Nat.add_zero]
    exact Nat.mod_eq_of_lt h3
  have e3 : getX c (o + 6) (2 : Int) = x.sec := (h.left.left.of_eq (k := o + 6) rfl (by simp [le_len])).num (n := 2) (by omega) h4
  have e4 : getX c (o + 8) (8 : Int) = x.val := (h.left.of_eq (k := o + 8) rfl (by simp [le_len])).num (n := 8) (by omega) h5
  have e5 : getX c (o + 16) (8 : Int) = x.sz := (h.of_eq (k := o + 16) rfl (by simp [le_len])).num (n := 8) (by omega) h6
  unfold syIn
  rw [e0, e1, e2, e3, e4, e5]
theorem le_add (m n x : Nat) : le (m + n) x = le m x ++ le n (x / 256 ^ m) := by
  induction m generalizing x with
  | zero => rw [Nat.zero_add, Nat.pow_zero, Nat.div_one]; rfl
  | succ m ih =>
    rw [show m + 1 + n = (m + n) + 1 from by omega]
    show UInt8.ofNat (x % 256) :: le (m + n) (x / 256) = UInt8.ofNat (x % 256) :: (le m (x / 256) ++ _)
    rw [ih, Nat.div_div_eq_div_mul, Nat.pow_succ, Nat.mul_comm 256]
theorem rlIn_at {c : BS} {o : Nat} {x : Rl} (h : At c o (relR x)) (hx : RlOk x) : rlIn c o = x := by
  obtain ⟨h1, h2, h3, h4⟩ := hx
  have hs : le 8 (x.ty + x.sym * 4294967296) = le 4 (x.ty + x.sym * 4294967296) ++ le 4 x.sym := by
    rw [show (8 : Nat) = 4 + 4 from rfl, le_add 4 4, show (x.ty + x.sym * 4294967296) / 256 ^ 4 = x.sym from by omega]
  have e0 : getX c o (8 : Int) = x.off := h.left.left.num (n := 8) (by omega) h1
  have q1 : At c (o + 8) (le 4 (x.ty + x.sym * 4294967296) ++ le 4 x.sym) := by
    rw [← hs]
    exact h.left.of_eq rfl (by rw [le_len])
  have e1 : getX c (o + 8) (4 : Int) = x.ty := by
    have := q1.left.raw (n := 4) (le_len _ _) (by omega)
    rw [show ((4 : Int)) = ((4 : Nat) : Int) from rfl, this, leN_le]
    omega
  have e2 : getX c (o + 12) (4 : Int) = x.sym := (q1.of_eq (k := o + 12) rfl (by rw [le_len])).num (n := 4) (by omega) h3
  have e3 : getX c (o + 16) (8 : Int) = x.add := (h.of_eq (k := o + 16) rfl (by simp [le_len])).num (n := 8) (by omega) h4
  unfold rlIn
  rw [e0, e1, e2, e3]
theorem syTab_at {L : List Sy} (h : ∀ x ∈ L, SyOk x) : syTab (L.flatMap symR) = (0, L) := by
  have hl := flat24 symR symR_len L
  unfold syTab
  rw [hl, if_pos (by omega), show 24 * L.length / 24 = L.length from by omega]
  congr 1
  refine List.ext_getElem (by rw [List.length_map, List.length_range]) fun i h1 h2 => ?_
  rw [List.getElem_map, List.getElem_range]
  exact syIn_at (flat_at symR symR_len L i h2) (h _ (List.getElem_mem h2))
theorem rlTab_at {L : List Rl} (h : ∀ x ∈ L, RlOk x) : rlTab (L.flatMap relR) = (0, L) := by
  have hl := flat24 relR relR_len L
  unfold rlTab
  rw [hl, if_pos (by omega), show 24 * L.length / 24 = L.length from by omega]
  congr 1
  refine List.ext_getElem (by rw [List.length_map, List.length_range]) fun i h1 h2 => ?_
  rw [List.getElem_map, List.getElem_range]
  exact rlIn_at (flat_at relR relR_len L i h2) (h _ (List.getElem_mem h2))
theorem symR0 : List.replicate 24 (0 : UInt8) = symR sy0 := by decide
/-- a Spec whose file can be read -/
structure GoodS (s : Sp) : Prop where
  may : mayM s = 0
  nm : ∀ n ∈ s.need, n ≠ []
  dnm : ∀ d ∈ s.defs, d.nm ≠ []
  dl : s.defs.length < 1024
  dv : ∀ d ∈ s.defs, d.off ≤ 1073741824
  dt : ∀ d ∈ s.defs, d.wh = 3 → hasTB s = true ∧ d.off ≤ s.tls.length + s.tbss
  fk : ∀ f ∈ s.fixes, knownB f.ty = true ∧ f.add < 18446744073709551616 ∧ decide (f.ty = 0 ∨ f.ty = 8) = decide (f.df < 0)
  fl : ∀ f ∈ s.fixes, f.off + 8 ≤ (if f.wh = 2 then s.data.length else s.code.length)
def symsL (s : Sp) (y : Lay) (ats : List Nat) : List Sy := if s.defs.isEmpty then [] else sy0 :: ((ats.drop (1 + s.need.length)).zip s.defs).map fun p => symOf y p.1 p.2
def relsL (s : Sp) (y : Lay) : List Rl := s.fixes.map (relOf y)
def namesL (s : Sp) : List BS := if s.defs.isEmpty then [] else [] :: s.defs.map (·.nm)
theorem knownB_lt {t : Nat} (h : knownB t = true) : t < 4294967296 := by
  unfold knownB at h
  rw [decide_eq_true_eq] at h
  omega
section
variable {s : Sp} {y : Lay} {n : Nat}
theorem relOf_ok (hg : GoodS s) (h : Sane s y n) {f : Fx} (hf : f ∈ s.fixes) :
    RlOk (relOf y f) ∧ (relOf y f).off = f.off + (if f.wh = 2 then y.data else y.code) ∧ rlE (if s.defs.isEmpty then 0 else s.defs.length + 1) (relOf y f) = 0 := by
  obtain ⟨h1, h2, h3⟩ := hg.fk f hf
  have h4 := hg.fl f hf
  have h5 := (mayM_ok hg.may).2.2.1 f hf
  have h6 := h.cl
  have h7 := h.dtl
  have h8 := h.n16
  have h9 := h.ln
  have h10 := h.code
  have h11 := h.data
  have h12 := hg.dl
  have hdl : s.defs.isEmpty = decide (s.defs.length = 0) := by cases s.defs <;> rfl
  have hoff : (f.off + (if f.wh = 2 then y.data else y.code)) % 18446744073709551616 = f.off + (if f.wh = 2 then y.data else y.code) := by
    split <;> split at h4 <;> first | omega | (rw [Nat.mod_eq_of_lt]; omega)
  have hk := knownB_lt h1
  have hsy : (if 0 ≤ f.df then (f.df.toNat + 1) % 4294967296 else 0) = if 0 ≤ f.df then f.df.toNat + 1 else 0 := by
    split
    · rw [Nat.mod_eq_of_lt]; omega
    · rfl
  unfold relOf
  rw [hoff, hsy]
  refine ⟨⟨?_, hk, ?_, h2⟩, rfl, ?_⟩
  · show f.off + _ < _
    rw [← hoff]
    exact Nat.mod_lt _ (by decide)
  · show (if 0 ≤ f.df then f.df.toNat + 1 else 0) < _
    split <;> omega
  · unfold rlE
    dsimp only
    rw [h1, if_neg (by decide), h3, hdl]
    by_cases hd : 0 ≤ f.df
    · have e1 : decide (f.df < 0) = false := decide_eq_false (by omega)
      have e2 : decide (s.defs.length = 0) = false := decide_eq_false (by omega)
      rw [if_pos hd, e1, e2]
      simp only [reduceCtorEq, if_false]
      rw [if_neg (by omega)]
      refine if_pos (Eq.symm ?_)
      simp
    · have e1 : decide (f.df < 0) = true := decide_eq_true (by omega)
      rw [if_neg hd, e1, if_neg (by omega)]
      rfl
theorem chkR_ok {n : Nat} : ∀ (L : List Rl), (∀ x ∈ L, rlE n x = 0) → chkR n L = 0
  | [], _ => rfl
  | x :: r, h => by
    unfold chkR
    rw [if_pos (h x (List.mem_cons_self ..))]
    exact chkR_ok r fun x hx => h x (List.mem_cons_of_mem _ hx)
theorem symOf_ok (hg : GoodS s) (h : Sane s y n) {d : Df} (hd : d ∈ s.defs) {p : Nat} (hp : p < 65536) (hp0 : p ≠ 0) :
    SyOk (symOf y p d) ∧ mayS (symOf y p d) = true ∧ (symOf y p d).nm = p ∧ ∀ r, sySound (segsM s y) (symOf y p d :: r) = sySound (segsM s y) r := by
  have h4 := hg.dv d hd
  have h5 := (mayM_ok hg.may).2.1 d hd
  have h6 := h.cl
  have h7 := h.dtl
  have h8 := h.n16
  have h9 := h.ln
  have h10 := h.code
  have h11 := h.data
  have hm : p % 4294967296 = p := Nat.mod_eq_of_lt (by omega)
  have ht := hg.dt d hd
  have hc : (d.off + y.code) % 18446744073709551616 = d.off + y.code := Nat.mod_eq_of_lt (by omega)
  have hdd : (d.off + y.data) % 18446744073709551616 = d.off + y.data := Nat.mod_eq_of_lt (by omega)
  have hw : (if d.weak = true then 32 else 16) = 32 ∨ (if d.weak = true then 32 else 16) = 16 := by cases d.weak <;> simp
  unfold symOf
  dsimp only
  rw [hm, hc, hdd]
  generalize (if d.weak = true then 32 else 16) = inf at *
  have hcs : d.wh = 0 ∨ d.wh = 1 ∨ d.wh = 2 ∨ d.wh = 3 := by omega
  have hmay : ∀ i sec val : Nat, i / 16 ≤ 2 → (i % 16 = 0 ∨ i % 16 = 1 ∨ i % 16 = 2 ∨ i % 16 = 6) → sec ≤ 1 → (sec = 0 → val = 0 ∧ i / 16 ≠ 0) → mayS ⟨p, i, 0, sec, val, 0⟩ = true := fun i sec val g1 g2 g3 g4 => by
    unfold mayS
    dsimp only
    rw [decide_eq_true g1, decide_eq_true g2, decide_eq_true g3, decide_eq_true hp0, decide_eq_true (rfl : (0 : Nat) = 0)]
    by_cases hz : sec = 0
    · have := g4 hz
      rw [decide_eq_true (⟨this.1, rfl, this.2⟩ : val = 0 ∧ 0 = 0 ∧ i / 16 ≠ 0), Bool.or_true]
      rfl
    · rw [decide_eq_true hz]
      rfl
  rcases hcs with e | e | e | e
  · rw [if_pos e]
    refine ⟨⟨by show p < _; omega, by show inf < _; omega, Nat.zero_lt_succ _, Nat.zero_lt_succ _, Nat.zero_lt_succ _, Nat.zero_lt_succ _⟩, hmay _ _ _ (by omega) (by omega) (by omega) (by omega), rfl, fun r => ?_⟩
    conv => lhs; unfold sySound
    rw [if_pos rfl]
  · rw [if_neg (by omega), if_pos e]
    refine ⟨⟨by show p < _; omega, by show inf + 2 < _; omega, Nat.zero_lt_succ _, by show 1 < _; decide, by show d.off + y.code < _; omega, Nat.zero_lt_succ _⟩, hmay _ _ _ (by omega) (by omega) (by omega) (by omega), rfl, fun r => ?_⟩
    conv => lhs; unfold sySound
    dsimp only
    rw [if_neg (by decide), if_neg (by omega), if_neg (by omega)]
  · rw [if_neg (by omega), if_neg (by omega), if_pos e]
    refine ⟨⟨by show p < _; omega, by show inf + 1 < _; omega, Nat.zero_lt_succ _, by show 1 < _; decide, by show d.off + y.data < _; omega, Nat.zero_lt_succ _⟩, hmay _ _ _ (by omega) (by omega) (by omega) (by omega), rfl, fun r => ?_⟩
    conv => lhs; unfold sySound
    dsimp only
    rw [if_neg (by decide), if_neg (by omega), if_neg (by omega)]
  · rw [if_neg (by omega), if_neg (by omega), if_neg (by omega)]
    obtain ⟨t1, t2⟩ := ht e
    refine ⟨⟨by show p < _; omega, by show inf + 6 < _; omega, Nat.zero_lt_succ _, by show 1 < _; decide, by show d.off < _; omega, Nat.zero_lt_succ _⟩, hmay _ _ _ (by omega) (by omega) (by omega) (by omega), rfl, fun r => ?_⟩
    conv => lhs; unfold sySound
    dsimp only
    rw [if_neg (by decide), if_pos (by omega), findM_7, t1, if_pos rfl]
    dsimp only
    rw [if_neg (by show ¬ s.tls.length + s.tbss < d.off; omega)]
theorem loadedB_at (h : Sane s y n) {a : Nat} {f : Fx} (hf : f.wh = 1 ∨ f.wh = 2) (hl : f.off + 8 ≤ (if f.wh = 2 then s.data.length else s.code.length)) (ha : a = f.off + (if f.wh = 2 then y.data else y.code)) : loadedB (segsM s y) a = true := by
  unfold loadedB
  rw [List.any_eq_true]
  rcases hf with e | e
  · rw [if_neg (by omega)] at hl ha
    have hne : s.code.isEmpty = false := by
      cases hc : s.code with
      | nil => rw [hc] at hl; simp at hl
      | cons a r => rfl
    refine ⟨sgC s y, ?_, ?_⟩
    · unfold segsM
      rw [hne, if_neg (by decide)]
      exact List.mem_cons_of_mem _ (List.mem_append_left _ (List.mem_cons_self ..))
    · unfold sgC
      dsimp only
      rw [decide_eq_true_eq]
      omega
  · rw [if_pos e] at hl ha
    have hdb : hasDB s = true := hasDB_iff.2 (.inl (by omega))
    have h1 := h.tls
    have h2 : s.data.length ≤ Ld.dataN s y := by
      rw [dataN_eq]
      split
      · exact Nat.le_refl _
      · omega
    refine ⟨sgD s y, ?_, ?_⟩
    · unfold segsM
      rw [hdb, if_pos rfl]
      exact List.mem_cons_of_mem _ (List.mem_append_right _ (List.mem_append_left _ (List.mem_cons_self ..)))
    · unfold sgD
      dsimp only
      rw [decide_eq_true_eq]
      omega
end
end Go.Dm.Ld
