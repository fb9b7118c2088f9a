/- The document's Build: rows that grow, a function's later part, what a Spec yields. The document's bytes and names: Inside, width, Get, Cut, Check, At. The document's entries: None. The document's segments: at, Get, First, Behind, Find, Place. The document's segments: Place, alone. No condition. -/
import Derived.Test.YtbnahidopemkiaaGreatBu8
import Derived.Test.YtbnahidopemkiaaGreatLdS
import Derived.Deep.CutRange
import Derived.Deep.CutBlock
import Derived.Deep.DeepCutAuto
import Derived.Test.YtbnahidopemkiaaGreatEnt
import Derived.BigQuiet
import Derived.Test.YtbnahidopemkiaaGreatDy1
import Derived.Test.YtbnahidopemkiaaGreatSg5
set_option linter.unusedVariables false
set_option linter.unusedSimpArgs false
namespace Go.Dm.Ld
open Go Go.Dm.Oc
def DfOk (d : Df) : Prop := d.nm.length ≤ 100000 ∧ d.off < 18446744073709551616
def FxOk (f : Fx) : Prop := f.off < 18446744073709551616 ∧ f.ty < 4294967296 ∧ f.df < 4294967295 ∧ f.add < 18446744073709551616
structure SpOk (s : Sp) : Prop where
  so : s.so.length ≤ 100000
  nd : ∀ n ∈ s.need, n.length ≤ 100000
  df : ∀ d ∈ s.defs, DfOk d
  fx : ∀ f ∈ s.fixes, FxOk f
  ln : s.need.length ≤ 2000
  ld : s.defs.length ≤ 2000
  lf : s.fixes.length ≤ 100000
  code : s.code.length ≤ 1099511627776
  data : s.data.length ≤ 1099511627776
  tls : s.tls.length ≤ 1099511627776
  en : s.entry < 18446744073709551616
  bss : s.bss < 18446744073709551616
  tbss : s.tbss < 18446744073709551616
end Go.Dm.Ld
namespace Go.Dm
open Go
/-- the region that a piece of code begins with -/
def codeHead : Code → Option Nat
  | .region m _ _ => some m
  | .seq c _ => codeHead c
  | _ => none
/-- the part of a function's code that begins with region n -/
def codeFrom (n : Nat) : Code → Code
  | .seq c r => match codeHead c with
    | some m => if m == n then .seq c r else codeFrom n r
    | none => codeFrom n r
  | c => c
theorem use_k {P : Program} {c : Code} {Q : Exit → Act → World → Prop} {K : Act → World → Prop} {a : Act} {w : World} (h : ∀ a w, Code.wp P c Q a w → K a w) (h2 : Code.wp P c Q a w) : K a w := h a w h2
def bodyFrom (f : Func) (n : Nat) : Code := match f.body with | some c => codeFrom n c | none => .skip
end Go.Dm
namespace Go.Proofs.YtbnahidopemkiaaGreat
open Go.RowKit Go.Dm Go.Dm.Oc Go.Dm.Ld
/-- a row of one's own that is newer than all that the rest leans on -/
structure Out {α : Type} (wB w : World) (e : TypeId) (k : Nat) (enc : α → List Value) (v : Value) (l : List α) : Prop where
  row : FlO w wB.heap.size e k enc v l
  kept : Keep (fun j => wB.heap.size ≤ j) wB w
section
variable {α : Type} {wB w w' : World} {e : TypeId} {k : Nat} {enc : α → List Value} {v v' : Value} {l l' m : List α}
theorem Out.base (h : Out wB w e k enc v l) : wB.heap.size ≤ w.heap.size := h.kept.size
theorem Out.call (h : Out wB w e k enc v l) (hk : Keep No w w') : Out wB w' e k enc v l := ⟨h.row.no hk, h.kept.trans hk fun _ _ e => e.elim⟩
theorem Out.push (h : Out wB w e k enc v l) (ho : FlO w' wB.heap.size e k enc v' l') (hk : Keep (fun j => some j = v.ownBlock) w w') : Out wB w' e k enc v' l' :=
  ⟨ho, h.kept.trans hk fun j _ e => (World.ownsRow.lt h.row j e.symm).1⟩
theorem Out.shape (h : Out wB w e k enc v l) : ∃ a c, v = .slice a l.length c := by
  obtain ⟨a, c, e, _⟩ := h.row.fl.shape
  exact ⟨a, c, e⟩
theorem Out.sh (h : Out wB w e k enc v l) : ∃ a n c, v = .slice a n c := by
  obtain ⟨a, c, e⟩ := h.shape
  exact ⟨_, _, _, e⟩
theorem Out.old {w0 : World} (h : Out wB w e k enc v l) (hk : Keep No w0 wB) : Keep No w0 w := hk.trans h.kept fun j hj e => absurd hj (Nat.not_lt.2 (Nat.le_trans hk.size e))
theorem Out.pushed {w w' : World} {v v' : Value} {l l' : List UInt8} (h : Out wB w 5 1 e8 v l) (hp : Pushed wB.heap.size w w' v v' l') : Out wB w' 5 1 e8 v' l' := h.push hp.row hp.kept
theorem _root_.Go.Dm.Blk.out {b : Nat} {cs : Array Value} {t : TypeId} (hB : Blk wB b cs t) (h : Out wB w e k enc v l) : Blk w b cs t := hB.keep h.kept fun e => absurd (Blk.lt hB) (Nat.not_lt.2 e)
theorem fl_part {A : Nat → Prop} {g o n c lo m : Nat} {l : List Nat} (h : Fl A w 1 encN (.slice (some ⟨g, o, none⟩) n c) l) (hl : lo + m ≤ l.length) :
    Fl A w 1 encN (.slice (if c = lo then some ⟨g, o, none⟩ else some ⟨g, o + lo, none⟩) m (c - lo)) ((l.drop lo).take m) := by
  have hm : ((l.drop lo).take m).length = m := by rw [List.length_take, List.length_drop]; omega
  obtain ⟨h1, a', cap, e, hc, hd, hf, hr⟩ := h
  cases e
  unfold Fl
  rw [hm]
  have hfl : ∀ l : List Nat, l.flatMap encN = l.map fun x : Nat => Value.int .u64 (x : Int) := fun l => by
    induction l with
    | nil => rfl
    | cons a r ih => rw [List.flatMap_cons, List.map_cons, ih]; rfl
  rw [hfl]
  refine ⟨by rw [List.length_map, hm]; omega, (if c = lo then some ⟨g, o, none⟩ else some ⟨g, o + lo, none⟩), _, rfl, by omega, by omega, fun ha => ?_, fun hn => ?_⟩
  · exfalso
    split at ha <;> cases ha
  rw [if_neg (by omega)]
  obtain ⟨g2, off, e2, hA, hg, hr⟩ := hr (by omega)
  cases e2
  refine ⟨g, o + lo, rfl, hA, hg, fun j u hu => ?_⟩
  show w.cell? ⟨g, o + lo + j, none⟩ = _
  rw [Nat.add_assoc]
  refine hr _ _ ?_
  rw [hfl]
  rw [List.getElem?_map, List.getElem?_take] at hu
  split at hu
  · rw [List.getElem?_map, ← List.getElem?_drop]; exact hu
  · cases hu
theorem fl_blk {g n : Nat} {cs : Array Value} {t : TypeId} {l : List Nat} (h : Blk w g cs t) (hc : cs.toList = l.flatMap encN) (hn : l.length = n) (hm : n ≤ maxLen) : Fl (fun k => k = g) w 1 encN (.slice (some ⟨g, 0, none⟩) n n) l := by
  unfold Fl
  rw [hn, ← hc]
  refine Sl.mk (by rw [hc, Nat.mul_one, ← hn]; clear hc hn h; induction l with
    | nil => rfl
    | cons a r ih => rw [List.flatMap_cons, List.length_append, ih]; exact Nat.add_comm _ _) rfl h.lt (Nat.le_refl _) hm fun j u hu => by rw [Nat.zero_add, h.cell]; simpa using hu
theorem info_len (nd V : List Nat) : (infoB nd V).length ≤ 16 * nd.length + 128 := by
  unfold infoB
  rw [List.length_append, List.length_append, ents_len, entB_len]
  have := entIs_len V 7
  omega
theorem rg_outz {w : World} {v : Value} {l : List UInt8} {ty : TypeId} {m : Nat} (hO : Out wB w 5 1 e8 v l) (hm : 0 < m) (hlen : l.length + m ≤ 1099511627776) {K : Value → World → Prop}
    (h : ∀ v' w', Out wB w' 5 1 e8 v' (l ++ List.replicate m 0) → K v' w') : AppendGoal Tryz.prog 24 3 ty v (.int .i64 (m : Int)) w K := by
  have hz := hO.row
  unfold FlO at hz
  rw [e8_map] at hz
  refine rg_zeros hz hm hlen hO.base ?_
  intro v1 w1 ho1 hk1 _
  refine h v1 w1 (hO.push ?_ hk1)
  unfold FlO
  rw [e8_map]
  exact ho1
theorem rg_outcat {A : Nat → Prop} {w : World} {v vs : Value} {l m : List UInt8} {ty : TypeId} (hO : Out wB w 5 1 e8 v l) (hs : Fl A w 1 e8 vs m) (hlen : l.length + m.length ≤ 1099511627776) {K : Value → World → Prop}
    (h : ∀ v' w', Out wB w' 5 1 e8 v' (l ++ m) → K v' w') : AppendGoal Tryz.prog 24 24 ty v vs w K :=
  rg_cat (base := wB.heap.size) _ 1 Tryz.underlying24 o_info rfl (by decide) hs e8_one hO.row hlen (by decide) hO.base fun v1 w1 ho1 hk1 _ => h v1 w1 (hO.push ho1 hk1)
theorem rg_outpush {w : World} {v : Value} {l : List UInt8} {ty : TypeId} (x : UInt8) (hO : Out wB w 5 1 e8 v l) (hlen : l.length + 1 ≤ 1099511627776) {K : Value → World → Prop}
    (h : ∀ v' w', Out wB w' 5 1 e8 v' (l ++ [x]) → K v' w') : AppendGoal Tryz.prog 24 24 ty v (.slice (some ⟨w.heap.size, 0, none⟩) 1 1) (w.alloc (.cells #[bv x] 5)) K :=
  rg_push (cs := #[bv x]) (enc := e8) (x := x) _ 1 Tryz.underlying24 o_info rfl (by decide) rfl rfl (e8_one _) hO.row hlen (by decide) hO.base fun v1 w1 ho1 hk1 _ => h v1 w1 (hO.push ho1 hk1)
theorem Out.alloc {w : World} (h : Out wB w e k enc v l) (o : Obj) : Out wB (w.alloc o) e k enc v l := h.call ((Keep.refl _ _).alloc o)
theorem Out.drew (h : Out wB w e k enc v l) : Out wB w.drew e k enc v l := h.call (Keep.refl _ _).drew
theorem Out.set {g i : Nat} (h : Out wB w e k enc v l) (hg : wB.heap.size ≤ g) (hv : v.ownBlock ≠ some g) (x : Value) : Out wB (w.setCell ⟨g, i, none⟩ x) e k enc v l :=
  ⟨h.row.same fun j hj => Below.heap_setCell _ _ _ _ fun q => hv (hj.trans (congrArg some q)), h.kept.setCell (fun hl => hg) x⟩
theorem fl_len {α : Type} {A : Nat → Prop} {w : World} {k n c : Nat} {enc : α → List Value} {a : Option Addr} {l : List α} (h : Fl A w k enc (.slice a n c) l) : n = l.length := by
  obtain ⟨_, _, q, _, _⟩ := h.shape
  injection q
theorem bts_len {A : Nat → Prop} {w : World} {n c : Nat} {a : Option Addr} {l : List UInt8} (h : Bts A w (.slice a n c) l) : n = l.length := by
  obtain ⟨_, _, q, _, _⟩ := Sl.shape h
  injection q
theorem blk_new2 (w : World) (o : Obj) (cs : Array Value) (t : TypeId) : Blk ((w.alloc o).alloc (.cells cs t)) (w.heap.size + 1) cs t := by
  have h := Blk.new (w.alloc o) cs t
  rw [World.size_alloc] at h
  exact h
theorem encDf_len (d : Df) : (encDf d).length = 4 := rfl
theorem encFx_len (d : Fx) : (encFx d).length = 5 := rfl
end
section
variable {A S : Nat → Prop} {w w' : World} {vn vc vd vt vf vx : Value} {s : Sp}
theorem SpR.keep (h : SpR A w s vn vc vd vt vf vx) (hk : Keep S w w') (hS : ∀ j, j < w.heap.size → A j → ¬ S j) : SpR A w' s vn vc vd vt vf vx :=
  ⟨h.need.keep hk hS, Sl.keep h.code hk hS, Sl.keep h.data hk hS, Sl.keep h.tls hk hS, h.defs.keep hk hS, h.fixes.keep hk hS⟩
theorem SpR.no (h : SpR A w s vn vc vd vt vf vx) (hk : Keep No w w') : SpR A w' s vn vc vd vt vf vx := h.keep hk fun _ _ _ h => h
theorem strGo_inv : ∀ (l : List BS) (done : List (BS × Nat)) (tb : BS), (∀ p ∈ done, p.2 < tb.length) → 0 < tb.length →
    (∀ p ∈ (strGo l done tb).1, p.2 < (strGo l done tb).2.length) ∧ (strGo l done tb).1.length = done.length + l.length
  | [], done, tb, h, _ => ⟨h, by simp [strGo]⟩
  | x :: r, done, tb, h, h0 => by
    have hst : (strStep done tb x).1 < (strStep done tb x).2.length ∧ tb.length ≤ (strStep done tb x).2.length := by
      unfold strStep
      split
      · exact ⟨h0, Nat.le_refl _⟩
      · split
        · rename_i p hp
          exact ⟨h p (List.mem_of_find?_eq_some hp), Nat.le_refl _⟩
        · simp only [List.length_append, List.length_cons, List.length_nil]
          omega
    have ih := strGo_inv r (done ++ [(x, (strStep done tb x).1)]) (strStep done tb x).2 (fun p hp => by
      rcases List.mem_append.1 hp with hp | hp
      · exact Nat.lt_of_lt_of_le (h p hp) hst.2
      · rw [List.mem_singleton.1 hp]; exact hst.1) (Nat.lt_of_lt_of_le h0 hst.2)
    refine ⟨ih.1, ?_⟩
    have h2 : (strGo (x :: r) done tb).1.length = _ := ih.2
    rw [h2]
    simp only [List.length_append, List.length_cons, List.length_nil]
    omega
theorem strM_ok {l : List BS} (h : (strM l).1 = 0) : (strM l).2.2.length = l.length ∧ (∀ x ∈ (strM l).2.2, x < 65536) ∧ (strM l).2.1.length ≤ 65536 := by
  have hi := strGo_inv l [] [0] (fun p hp => by cases hp) Nat.zero_lt_one
  unfold strM at *
  split at h
  · cases h
  · rename_i h1
    rw [if_neg h1]
    split at h
    · cases h
    · rename_i h2
      rw [if_neg h2]
      refine ⟨by rw [List.length_map, hi.2]; exact Nat.zero_add _, fun x hx => ?_, by show (strGo l [] [0]).2.length ≤ 65536; omega⟩
      obtain ⟨p, hp, rfl⟩ := List.mem_map.1 hx
      have := hi.1 p hp
      omega
theorem mayM_ok {s : Sp} (h : mayM s = 0) : (s.kind = 2 ∨ s.kind = 3) ∧ (∀ d ∈ s.defs, 0 ≤ d.wh ∧ d.wh ≤ 3) ∧ (∀ f ∈ s.fixes, (f.wh = 1 ∨ f.wh = 2) ∧ f.df < (s.defs.length : Int)) ∧ s.bss ≤ 1048576 ∧ s.tbss ≤ 1048576 ∧ s.code.length + s.data.length + s.tls.length ≤ 65536 := by
  unfold mayM at h
  split at h
  · cases h
  · rename_i h1
    split at h
    · cases h
    · rename_i h2
      split at h
      · cases h
      · rename_i h3
        split at h
        · cases h
        · rename_i h4
          refine ⟨by omega, fun d hd => ?_, fun f hf => ?_, by omega, by omega, by omega⟩
          · have h5 : badD d = false := by
              rw [Bool.eq_false_iff]
              exact fun h5 => h2 (List.any_eq_true.2 ⟨d, hd, h5⟩)
            unfold badD at h5
            rw [Bool.or_eq_false_iff, decide_eq_false_iff_not, decide_eq_false_iff_not] at h5
            omega
          · have h5 : badF s.defs.length f = false := by
              rw [Bool.eq_false_iff]
              exact fun h5 => h3 (List.any_eq_true.2 ⟨f, hf, h5⟩)
            unfold badF at h5
            rw [Bool.or_eq_false_iff, Bool.and_eq_false_iff, decide_eq_false_iff_not, decide_eq_false_iff_not, decide_eq_false_iff_not] at h5
            omega
def strsOf (s : Sp) : List BS := s.so :: (s.need ++ s.defs.map (·.nm))
end
end Go.Proofs.YtbnahidopemkiaaGreat
namespace Go.Proofs.YtbnahidopemkiaaGreat
open Go.RowKit Go.Dm Go.Dm.Oc Go.Dm.Ld
section
variable {A : Nat → Prop} {w : World} {v : Value}
theorem r01wid_any (n : Int) (w : World) : Calls Tryz.prog 125 #[.int .i64 n] w fun e w' => e = .returned (.bool (widthB n)) ∧ w = w' := by
  go_enter Tryz.func125, Tryz.ntmps125
  go_wp2_with fail
  all_goals
    go_ret
    refine ⟨congrArg (fun b => Ending.returned (Value.bool b)) ?_, rfl⟩
    rw [Bool.eq_iff_iff]
    simp only [widthB, decide_eq_true_eq, true_iff, Bool.or_eq_true, beq_iff_eq]
    omega
theorem r01in_any (many at_ size : Nat) (hm : many < 9223372036854775808) (ha : at_ < 18446744073709551616) (hs : size < 18446744073709551616) (w : World) :
    Calls Tryz.prog 126 #[.int .i64 (many : Int), .int .u64 (at_ : Int), .int .u64 (size : Int)] w fun e w' => e = .returned (.bool (hasB many at_ size)) ∧ w = w' := by
  have hw : IntKind.u64.wrap (many : Int) = (many : Int) := by rw [IntKind.wrap_u64]; omega
  rcases Nat.lt_or_ge many at_ with h | h
  · have hz : (many : Int) < (at_ : Int) := by omega
    have hr : hasB many at_ size = false := by unfold hasB; rw [decide_eq_false (by omega), Bool.false_and]
    rw [hr]
    go_enter Tryz.func126, Tryz.ntmps126
    go_wp2_with fail
    go_ret
    exact ⟨rfl, rfl⟩
  · have hz : (at_ : Int) ≤ (many : Int) := by omega
    have hr : hasB many at_ size = decide ((size : Int) ≤ ((many - at_ : Nat) : Int)) := by
      unfold hasB
      rw [decide_eq_true h, Bool.true_and]
      congr 1
      exact propext ⟨fun h => by omega, fun h => by omega⟩
    have hw2 : IntKind.u64.wrap ((many : Int) - (at_ : Int)) = ((many - at_ : Nat) : Int) := by rw [IntKind.wrap_u64]; omega
    rw [hr]
    generalize many - at_ = d at *
    go_enter Tryz.func126, Tryz.ntmps126
    go_wp2_with fail
    all_goals
      go_ret
      refine ⟨congrArg (fun b => Ending.returned (Value.bool b)) ?_, rfl⟩
      rw [Bool.eq_iff_iff]
      simp only [decide_eq_true_eq, Bool.false_eq_true, false_iff, true_iff]
      first | omega | exact Iff.rfl
set_option maxRecDepth 100000 in
set_option maxHeartbeats 1000000 in
theorem r01get_any (b : List UInt8) (at_ : Nat) (n : Int) (hb : Bts A w v b) (hl : b.length ≤ 1099511627776) (ha : at_ < 18446744073709551616) (h0 : -9223372036854775808 ≤ n) (h1 : n < 9223372036854775808) :
    Calls Tryz.prog 94 #[v, .int .u64 (at_ : Int), .int .i64 n] w fun e w' => e = .returned (.tuple #[.int .u64 (getX b at_ n : Nat), .int .i64 (fitsE b.length at_ n : Nat)]) ∧ w = w' := by
  obtain ⟨a, c, rfl, hc, hc2⟩ := hb.shape
  obtain ⟨X, hX⟩ : ∃ X, getX b at_ n = X := ⟨_, rfl⟩
  have hx : getX b at_ n = if fitsE b.length at_ n = 0 then leN ((b.drop at_).take n.toNat) else 0 := rfl
  rw [hX] at hx ⊢
  have HX := Lib.hid hx
  clear hx hX
  have hwid := r01wid_any n w
  cases hwb : widthB n with
  | false =>
    have hf : fitsE b.length at_ n = 1 := by unfold fitsE; rw [hwb]; rfl
    rw [hwb] at hwid
    have hX0 : X = 0 := by rw [HX.out, hf]; rfl
    subst hX0
    rw [hf]
    go_enter Tryz.func94, Tryz.ntmps94
    go_wp2_with fail
    refine hwid.mono ?_
    rintro e x ⟨rfl, rfl⟩
    go_wp2_with fail
    go_ret2
    exact ⟨rfl, rfl⟩
  | true =>
    have hn : n = 1 ∨ n = 2 ∨ n = 4 ∨ n = 8 := by
      unfold widthB at hwb
      exact of_decide_eq_true hwb
    rw [hwb] at hwid
    obtain ⟨k, rfl⟩ : ∃ k : Nat, n = (k : Int) := ⟨n.toNat, by omega⟩
    have hk8 : k ≤ 8 := by omega
    have hk1 : 1 ≤ k := by omega
    have hin := r01in_any b.length at_ k (by omega) ha (by omega) w
    have hwk : IntKind.u64.wrap (k : Int) = (k : Int) := by rw [IntKind.wrap_u64]; omega
    have hf : fitsE b.length at_ (k : Int) = if hasB b.length at_ k then 0 else 10 := by unfold fitsE; rw [hwb]; rfl
    rw [hf] at HX ⊢
    cases hhb : hasB b.length at_ k with
    | false =>
      rw [hhb] at hin HX
      have hX0 : X = 0 := by rw [HX.out]; rfl
      subst hX0
      rw [if_neg (by decide)]
      clear HX hf hb
      go_enter Tryz.func94, Tryz.ntmps94
      go_wp2_with fail
      refine hwid.mono ?_
      rintro e x ⟨rfl, rfl⟩
      go_wp2_with fail
      refine hin.mono ?_
      rintro e x ⟨rfl, rfl⟩
      go_wp2_with fail
      go_ret2
      exact ⟨rfl, rfl⟩
    | true =>
      rw [hhb] at hin HX
      have hle : at_ ≤ b.length ∧ k ≤ b.length - at_ := by
        unfold hasB at hhb
        rw [Bool.and_eq_true, decide_eq_true_eq, decide_eq_true_eq] at hhb
        exact hhb
      have HE := Lib.hid (show X = leN ((b.drop at_).take k) by rw [HX.out]; rfl)
      rw [if_pos rfl]
      clear HX hf hhb hwb hn
      have hatz : (at_ : Int) < 9223372036854775808 := by omega
      have hlb : (b.length : Int) ≤ 1099511627776 := by omega
      have HB := Lib.hid hb
      have H0 : Hid (leN ((b.drop (at_ + k)).take (k - k)) = 0) := Lib.hid (by rw [Nat.sub_self, List.take_zero]; rfl)
      go_enter Tryz.func94, Tryz.ntmps94
      go_wp2_with fail
      refine hwid.mono ?_
      rintro e x ⟨rfl, rfl⟩
      go_wp2_with fail
      refine hin.mono ?_
      rintro e x ⟨rfl, rfl⟩
      clear hwid hin hb
      go_wp2_with fail
      go_loopw [9, 10] (fun xv iv wr => ∃ (z : Int) (j x : Nat), iv = .int .i64 z ∧ z + 1 = (j : Int) ∧ j ≤ k ∧ xv = .int .u64 (x : Int) ∧ Hid (leN ((b.drop (at_ + j)).take (k - j)) = x) ∧ w = wr) (fun _ iv _ => (intOf iv + 1).toNat)
      case atStart => exact ⟨_, k, 0, rfl, by omega, Nat.le_refl _, rfl, H0, rfl⟩
      case round =>
        obtain ⟨z, j, x, rfl, hz, hj, rfl, HXJ, rfl⟩ := hrel
        clear H0
        cases j with
        | zero =>
          obtain rfl : z = -1 := by omega
          have hX : X = x := by rw [HE.out, ← HXJ.out, Nat.add_zero, Nat.sub_zero]
          subst hX
          go_wp2_with fail
          go_ret2
          exact ⟨rfl, rfl⟩
        | succ i =>
          obtain rfl : z = (i : Int) := by omega
          obtain ⟨jj, hjj⟩ : ∃ q, q = at_ + i := ⟨_, rfl⟩
          have hlt : jj < b.length := by omega
          obtain ⟨g0, off, cap, e, hg0, hgl, _, _, hcell⟩ := HB.out.at (by omega : 0 < b.length)
          cases e
          have qb : w.cell? ⟨g0, off + jj, none⟩ = some (bv b[jj]) := hcell jj _ (by rw [List.getElem?_map, List.getElem?_eq_getElem hlt]; rfl)
          have hnx : leN ((b.drop (at_ + i)).take (k - i)) = b[jj].toNat + 256 * x := by
            rw [← HXJ.out, ← hjj, show at_ + (i + 1) = jj + 1 from by omega, show k - i = (k - (i + 1)) + 1 from by omega, List.drop_eq_getElem_cons hlt, List.take_succ_cons]
            rfl
          have hxb : x < 256 ^ 7 := by
            have h := leN_lt ((b.drop (at_ + (i + 1))).take (k - (i + 1)))
            rw [HXJ.out] at h
            refine Nat.lt_of_lt_of_le h (Nat.pow_le_pow_right (by decide) ?_)
            rw [List.length_take]
            omega
          have hy := b[jj].toNat_lt
          unfold bv at qb
          have HNX := Lib.hid hnx
          clear hnx hcell
          generalize b[jj].toNat = y at *
          have hxb2 : x < 72057594037927936 := hxb
          have hw1 : IntKind.u64.wrap ((x : Int) * 256) = ((x * 256 : Nat) : Int) := by rw [IntKind.wrap_u64]; omega
          have hw0 : IntKind.u64.wrap (y : Int) = (y : Int) := by rw [IntKind.wrap_u64]; omega
          have hw2 : IntKind.u64.wrap (((x * 256 : Nat) : Int) + (y : Int)) = ((y + 256 * x : Nat) : Int) := by rw [IntKind.wrap_u64]; omega
          obtain ⟨x1, hx1⟩ : ∃ q, q = x * 256 := ⟨_, rfl⟩
          obtain ⟨x2, hx2⟩ : ∃ q, q = y + 256 * x := ⟨_, rfl⟩
          rw [← hx1] at hw1 hw2
          rw [← hx2] at hw2
          have HN2 : Hid (leN ((b.drop (at_ + i)).take (k - i)) = x2) := Lib.hid (by rw [HNX.out, hx2])
          have hsum : (at_ : Int) + (i : Int) = (jj : Int) := by omega
          have hjz : (jj : Int) < (b.length : Int) := by omega
          have hg : decide ((0 : Int) ≤ (i : Int)) = true := decide_eq_true (by omega)
          have hi8 : (i : Int) ≤ 8 := by omega
          have hik : i ≤ k := by omega
          clear hx1 hx2 hxb hxb2 HNX HXJ hjj
          go_wp2_with fail
          go_roundw
          case rel => exact ⟨_, i, x2, rfl, by omega, hik, rfl, HN2, trivial⟩
          case measure => first | (simp [intOf]; done) | (simp [intOf]; omega)
set_option maxRecDepth 100000 in
set_option maxHeartbeats 1000000 in
theorem r01cut_any (b : List UInt8) (at_ size : Nat) (hb : Bts A w v b) (hl : b.length ≤ 1000000000) (ha : at_ < 18446744073709551616) (hs : size < 18446744073709551616) :
    Calls Tryz.prog 95 #[v, .int .u64 (at_ : Int), .int .u64 (size : Int)] w fun e w' => ∃ v', e = .returned (.tuple #[v', .int .i64 ((cutM b at_ size).1 : Int)]) ∧ FlO w' w.heap.size 5 1 e8 v' (cutM b at_ size).2 ∧ Keep No w w' := by
  obtain ⟨a, c, rfl, hc, hc2⟩ := hb.shape
  have hin := r01in_any b.length at_ size (by omega) ha hs w
  unfold cutM
  cases hhb : hasB b.length at_ size with
  | false =>
    rw [hhb] at hin
    rw [if_neg (by decide)]
    clear hb
    go_enter Tryz.func95, Tryz.ntmps95
    go_wp2_with fail
    refine hin.mono ?_
    rintro e x ⟨rfl, rfl⟩
    go_wp2_with fail
    go_ret2
    exact ⟨_, rfl, FlO.nil, Keep.refl _ _⟩
  | true =>
    rw [hhb] at hin
    rw [if_pos rfl]
    have hle : at_ ≤ b.length ∧ size ≤ b.length - at_ := by
      unfold hasB at hhb
      rw [Bool.and_eq_true, decide_eq_true_eq, decide_eq_true_eq] at hhb
      exact hhb
    have HB := Lib.hid hb
    have hlb : (b.length : Int) ≤ 1000000000 := by omega
    have hO0 : Out w w 5 1 e8 (.slice none 0 0) ((b.drop at_).take 0) := ⟨FlO.nil, Keep.refl _ _⟩
    clear hb hhb
    go_enter Tryz.func95, Tryz.ntmps95
    go_wp2_with fail
    refine hin.mono ?_
    rintro e x ⟨rfl, rfl⟩
    clear hin
    go_wp2_with fail
    go_loopw [9, 10] (fun ov iv wr => ∃ i : Nat, iv = .int .u64 (i : Int) ∧ i ≤ size ∧ Out w wr 5 1 e8 ov ((b.drop at_).take i)) (fun _ iv _ => size - (intOf iv).toNat)
    case atStart => exact ⟨0, rfl, Nat.zero_le _, hO0⟩
    case round =>
      obtain ⟨i, rfl, hi, hO⟩ := hrel
      clear hO0
      generalize wr = wy at *
      have hky := hO.old (Keep.refl _ _)
      obtain ⟨a1, n1, c1, rfl⟩ := hO.sh
      rcases Nat.lt_or_ge i size with hlt | hge
      · obtain ⟨jj, hjj⟩ : ∃ q, q = at_ + i := ⟨_, rfl⟩
        have hltb : jj < b.length := by omega
        obtain ⟨g0, off, cap, e, hg0, hgl, _, _, hcell⟩ := (Sl.keep HB.out hky fun _ _ _ h => h).at (by omega : 0 < b.length)
        cases e
        have qb : wy.cell? ⟨g0, off + jj, none⟩ = some (bv b[jj]) := hcell jj _ (by rw [List.getElem?_map, List.getElem?_eq_getElem hltb]; rfl)
        have htk : (b.drop at_).take (i + 1) = (b.drop at_).take i ++ [b[jj]] := by
          rw [List.take_succ_eq_append_getElem (by rw [List.length_drop]; omega), List.getElem_drop]
          congr 3
          exact hjj.symm
        have HTK := Lib.hid htk
        have hlen : ((b.drop at_).take i).length ≤ 1000000000 := by rw [List.length_take, List.length_drop]; omega
        have hsz := hO.base
        generalize b[jj] = y at *
        have hiz : (i : Int) < (size : Int) := by omega
        have hsum : IntKind.u64.wrap ((at_ : Int) + (i : Int)) = (jj : Int) := by rw [IntKind.wrap_u64]; omega
        have hjz : (jj : Int) < (b.length : Int) := by omega
        have hi1 : IntKind.u64.wrap ((i : Int) + 1) = ((i + 1 : Nat) : Int) := by rw [IntKind.wrap_u64]; omega
        clear htk hcell hjj
        unfold bv at qb
        go_wp2_with (at_builtin; refine wl_append rfl _ _ _ _ rfl _ _ rfl rfl ?_)
        refine rg_push (P := Tryz.prog) (enc := e8) (x := y) (cs := #[bv y]) _ _ Tryz.underlying24 o_info (by rfl) (by decide) (by rfl) (by rfl) (e8_one _) hO.row (by omega) (by decide) hsz ?_
        intro v4 w4 ho4 hk4 hn4
        have hO4 := hO.push ho4 hk4
        rw [← HTK.out] at hO4
        obtain ⟨a4, n4, c4, rfl⟩ := hO4.sh
        clear ho4 hk4 hn4 hO qb
        go_wp2_with fail
        go_roundw
        case rel => exact ⟨i + 1, congrArg (Value.int .u64) (by omega), hlt, hO4⟩
        case measure => first | (simp [intOf]; done) | (simp [intOf]; omega)
      · obtain rfl : i = size := Nat.le_antisymm hi hge
        go_wp2_with fail
        go_ret2
        exact ⟨_, rfl, hO.row, hky⟩
end
end Go.Proofs.YtbnahidopemkiaaGreat
namespace Go.Proofs.YtbnahidopemkiaaGreat
open Go.RowKit Go.Dm Go.Dm.Oc Go.Dm.Ld
section
variable {A : Nat → Prop} {w : World} {v : Value}
def nums7 (l : List Nat) : Array Value := (l.map fun x => .int .u64 (x : Int)).toArray
theorem made_nums (n : Nat) : madeCells (Value.int .u64 0).cells (n * 1) = nums7 (List.replicate n 0) := by
  apply Array.toList_inj.1
  apply List.ext_getElem
  · simp [madeCells, nums7]
  · intro i h1 h2
    simp [madeCells, Value.cells, nums7, Nat.mod_one]
theorem u64_infz : (Tryz.prog.info? 44).map (fun i => (i.zero, i.size, i.bytes)) = some (some (.int .u64 0), 1, 8) := by kernel_rfl
set_option maxRecDepth 100000 in
theorem r05none_any : Calls Tryz.prog 128 #[] w fun e w' => ∃ g, e = .returned (.agg #[.slice none 0 0, .slice (some ⟨g, 0, none⟩) 7 7]) ∧ w.heap.size ≤ g ∧ Blk w' g (nums7 [0, 0, 0, 0, 0, 0, 0]) 44 ∧ Keep No w w' := by
  go_enter Tryz.func128, Tryz.ntmps128
  go_wp2_with (first | (at_make; refine wl_make rfl _ _ _ rfl _ _ rfl rfl ?_) | (with_reducible refine wl_stAgg rfl _ _ _ rfl _ _ rfl rfl ?_))
  have hkW : Keep No w (w.alloc (.cells #[.slice none 0 0, .slice none 0 0] 121)) := (Keep.refl _ _).alloc _
  have hBW : Blk (w.alloc (.cells #[.slice none 0 0, .slice none 0 0] 121)) w.heap.size #[.slice none 0 0, .slice none 0 0] 121 := Blk.new _ _ _
  have hzW : (w.alloc (.cells #[.slice none 0 0, .slice none 0 0] 121)).heap.size = w.heap.size + 1 := World.size_alloc _ _
  generalize w.alloc (.cells #[.slice none 0 0, .slice none 0 0] 121) = W at *
  refine rg_make (w := W) (n := 7) 44 (.int .u64 0) 1 8 Tryz.underlying92 u64_infz (by omega) (by unfold maxLen; omega) ?_
  intro w2 hmk k2
  rw [made_nums] at hmk
  have hBr := hBW.keep k2 fun h => h
  have hlt := hBr.lt
  go_wp2_with (with_reducible refine wl_stAgg rfl _ _ _ rfl _ _ rfl rfl ?_)
  refine rg_stAgg hBr (by kernel_rfl) (by rfl) (by simp [Value.oneCell']) ?_
  intro w3 hB3 hk3 _
  have hne : W.heap.size ≠ w.heap.size := by omega
  go_wp2_with fail
  refine ret_blk rfl rfl hB3 Tryz.underlying121 rfl (by kernel_rfl) rfl ?_
  exact ⟨W.heap.size, by rw [hzW], by omega, hmk.keep hk3 fun e => hne e, (hkW.trans' k2).trans hk3 fun j hj e => by have e2 : j = w.heap.size := e; omega⟩
end
end Go.Proofs.YtbnahidopemkiaaGreat
namespace Go.Dm.Oc
open Go
theorem leN_append (l m : List UInt8) : leN (l ++ m) = leN l + 256 ^ l.length * leN m := by
  induction l with
  | nil => simp [leN]
  | cons a r ih =>
    simp only [List.cons_append, leN, ih, List.length_cons, Nat.pow_succ]
    rw [Nat.mul_add, Nat.mul_comm (256 ^ r.length) 256, Nat.mul_assoc, Nat.add_assoc]
theorem getX_in {b : List UInt8} {at_ k : Nat} (hk : k = 1 ∨ k = 2 ∨ k = 4 ∨ k = 8) (h : at_ + k ≤ b.length) : getX b at_ (k : Int) = leN ((b.drop at_).take k) := by
  have hf : fitsE b.length at_ (k : Int) = 0 := by
    unfold fitsE widthB hasB
    rw [decide_eq_true (by omega : (k : Int) = 1 ∨ (k : Int) = 2 ∨ (k : Int) = 4 ∨ (k : Int) = 8), if_pos rfl, decide_eq_true (by omega : at_ ≤ b.length), decide_eq_true (by rw [Int.toNat_natCast]; omega : ((k : Int)).toNat ≤ b.length - at_)]
    rfl
  unfold getX
  rw [if_pos hf, Int.toNat_natCast]
theorem getX_split {b : List UInt8} {at_ : Nat} (h : at_ + 8 ≤ b.length) : getX b at_ 8 = getX b at_ 4 + 4294967296 * getX b (at_ + 4) 4 := by
  have e8 : getX b at_ 8 = leN ((b.drop at_).take 8) := getX_in (k := 8) (by omega) h
  have e4 : getX b at_ 4 = leN ((b.drop at_).take 4) := getX_in (k := 4) (by omega) (by omega)
  have e5 : getX b (at_ + 4) 4 = leN ((b.drop (at_ + 4)).take 4) := getX_in (k := 4) (by omega) (by omega)
  have e : (b.drop at_).take 8 = (b.drop at_).take 4 ++ (b.drop (at_ + 4)).take 4 := by
    rw [show (8 : Nat) = 4 + 4 from rfl, List.take_add, List.drop_drop]
  rw [e8, e4, e5, e, leN_append]
  have hl : ((b.drop at_).take 4).length = 4 := by rw [List.length_take, List.length_drop]; omega
  rw [hl]
end Go.Dm.Oc
namespace Go.Dm.Ld
open Go Go.Dm.Oc
def fIdx : List Sg → Nat → Option Nat
  | [], _ => none
  | s :: r, k => if s.ty = k then some 0 else (fIdx r k).map (· + 1)
def fIdxZ (l : List Sg) (k : Nat) : Int := match fIdx l k with | some i => (i : Int) | none => -1
theorem fIdx_find : ∀ (l : List Sg) (k : Nat), match fIdx l k with | some i => ∃ h : i < l.length, findM l k = some l[i] | none => findM l k = none
  | [], k => rfl
  | s :: r, k => by
    unfold fIdx findM
    by_cases h : s.ty = k
    · rw [if_pos h, List.find?_cons_of_pos (by simpa using h)]
      exact ⟨Nat.succ_pos _, rfl⟩
    · rw [if_neg h, List.find?_cons_of_neg (by simpa using h)]
      have ih := fIdx_find r k
      unfold findM at ih
      cases hf : fIdx r k with
      | none => rw [hf] at ih; exact ih
      | some i =>
        rw [hf] at ih
        obtain ⟨h1, h2⟩ := ih
        exact ⟨Nat.succ_lt_succ h1, h2⟩
theorem fIdx_at {l : List Sg} {k i : Nat} (hi : i < l.length) (h : l[i].ty = k) (hno : ∀ j, (hj : j < i) → (l[j]'(by omega)).ty ≠ k) : fIdx l k = some i := by
  induction l generalizing i with
  | nil => simp at hi
  | cons s r ih =>
    unfold fIdx
    cases i with
    | zero => rw [if_pos (show s.ty = k from h)]
    | succ i =>
      rw [if_neg (show ¬ s.ty = k from hno 0 (Nat.succ_pos _)), ih (by simpa using hi) h fun j hj => hno (j + 1) (by omega)]
      rfl
theorem fIdx_none {l : List Sg} {k : Nat} (hno : ∀ j, (hj : j < l.length) → l[j].ty ≠ k) : fIdx l k = none := by
  induction l with
  | nil => rfl
  | cons s r ih =>
    unfold fIdx
    rw [if_neg (show ¬ s.ty = k from hno 0 (Nat.succ_pos _)), ih fun j hj => hno (j + 1) (by simpa using hj)]
    rfl
end Go.Dm.Ld
namespace Go.Proofs.YtbnahidopemkiaaGreat
open Go.RowKit Go.Dm Go.Dm.Oc Go.Dm.Ld
section
variable {A : Nat → Prop} {w : World} {v : Value}
theorem r04at_any (b : List UInt8) (at_ : Nat) (n : Int) (hb : Bts A w v b) (hl : b.length ≤ 1099511627776) (ha : at_ < 18446744073709551616) (h0 : -9223372036854775808 ≤ n) (h1 : n < 9223372036854775808) :
    Calls Tryz.prog 127 #[v, .int .u64 (at_ : Int), .int .i64 n] w fun e w' => e = .returned (.int .u64 (getX b at_ n : Nat)) ∧ w = w' := by
  have hg := r01get_any b at_ n hb hl ha h0 h1
  obtain ⟨ao, co, rfl, hc1, hc2⟩ := hb.shape
  clear hb
  generalize getX b at_ n = x at *
  generalize fitsE b.length at_ n = y at *
  generalize b.length = nb at *
  go_enter Tryz.func127, Tryz.ntmps127
  go_wp2_with fail
  refine hg.mono ?_
  rintro e W ⟨rfl, rfl⟩
  go_wp2_with fail
  go_ret
  exact ⟨rfl, rfl⟩
set_option maxRecDepth 100000 in
set_option maxHeartbeats 2000000 in
theorem r04get_any (b : BS) (hb : Bts A w v b) (hl : b.length ≤ 1099511627776) :
    Calls Tryz.prog 96 #[v] w fun e w' => e = .returned (.tuple #[.agg (encSg (sgGet b).2).toArray, .int .i64 ((sgGet b).1 : Nat)]) ∧ Keep No w w' := by
  have HB := Lib.hid hb
  have hat := fun (at_ : Nat) (n : Int) W (k : Keep No w W) (h1 : at_ < 64) (h2 : n = 4 ∨ n = 8) => r04at_any (w := W) b at_ n (Sl.keep hb k fun _ _ _ h => h) hl (by omega) (by omega) (by omega)
  obtain ⟨ao, co, rfl, hc1, hc2⟩ := hb.shape
  clear hb
  obtain ⟨r, hr⟩ : ∃ r, r = sgGet b := ⟨_, rfl⟩
  rw [← hr]
  unfold sgGet at hr
  by_cases hlt : b.length < 56
  · rw [if_pos hlt] at hr
    subst hr
    clear hat HB
    have hz : (b.length : Int) < 56 := by omega
    generalize b.length = n at *
    go_enter Tryz.func96, Tryz.ntmps96
    go_wp2_with (with_reducible refine wl_stAgg rfl _ _ _ rfl _ _ rfl rfl ?_)
    have hkW : Keep No w (w.alloc (.cells #[.int .u32 0, .int .u32 0, .int .u64 0, .int .u64 0, .int .u64 0, .int .u64 0, .int .u64 0] 113)) := (Keep.refl _ _).alloc _
    have hBW : Blk (w.alloc (.cells #[.int .u32 0, .int .u32 0, .int .u64 0, .int .u64 0, .int .u64 0, .int .u64 0, .int .u64 0] 113)) w.heap.size #[.int .u32 0, .int .u32 0, .int .u64 0, .int .u64 0, .int .u64 0, .int .u64 0, .int .u64 0] 113 := Blk.new _ _ _
    have hzW : (w.alloc (.cells #[.int .u32 0, .int .u32 0, .int .u64 0, .int .u64 0, .int .u64 0, .int .u64 0, .int .u64 0] 113)).heap.size = w.heap.size + 1 := World.size_alloc _ _
    generalize w.alloc (.cells #[.int .u32 0, .int .u32 0, .int .u64 0, .int .u64 0, .int .u64 0, .int .u64 0, .int .u64 0] 113) = W at *
    refine rg_stAgg hBW (by kernel_rfl) (by rfl) (by simp [Value.oneCell']) ?_
    intro w3 hB3 hk3 _
    go_wp2_with fail
    refine ret_blk_tmp rfl rfl hB3 Tryz.underlying113 rfl (by kernel_rfl) rfl ?_
    exact ⟨rfl, hkW.trans hk3 fun j hj e => by have e2 : j = w.heap.size := e; omega⟩
  · rw [if_neg hlt] at hr
    have HR := Lib.hid hr
    clear hr
    have hz : (56 : Int) ≤ (b.length : Int) := by omega
    have hsp := getX_split (b := b) (at_ := 0) (by omega)
    rw [Nat.zero_add] at hsp
    have h4a : getX b 0 4 < 4294967296 := getX_lt b 0 4
    have h4b : getX b 4 4 < 4294967296 := getX_lt b 4 4
    have HI : Hid (sgIn b = ⟨getX b 0 4, getX b 4 4, getX b 8 8, getX b 16 8, getX b 32 8, getX b 40 8, getX b 48 8⟩) := Lib.hid (by unfold sgIn; rw [hsp]; congr 1 <;> omega)
    have a0 := fun W (k : Keep No w W) => hat 0 4 W k (by decide) (by decide)
    have a4 := fun W (k : Keep No w W) => hat 4 4 W k (by decide) (by decide)
    have a8 := fun W (k : Keep No w W) => hat 8 8 W k (by decide) (by decide)
    have a16 := fun W (k : Keep No w W) => hat 16 8 W k (by decide) (by decide)
    have a24 := fun W (k : Keep No w W) => hat 24 8 W k (by decide) (by decide)
    have a32 := fun W (k : Keep No w W) => hat 32 8 W k (by decide) (by decide)
    have a40 := fun W (k : Keep No w W) => hat 40 8 W k (by decide) (by decide)
    have a48 := fun W (k : Keep No w W) => hat 48 8 W k (by decide) (by decide)
    clear hat hsp
    generalize getX b 0 4 = x0 at *
    generalize getX b 4 4 = x4 at *
    generalize getX b 8 8 = x8 at *
    generalize getX b 16 8 = x16 at *
    generalize getX b 24 8 = x24 at *
    generalize getX b 32 8 = x32 at *
    generalize getX b 40 8 = x40 at *
    generalize getX b 48 8 = x48 at *
    have HA := Lib.hid (And.intro a0 (And.intro a4 (And.intro a8 (And.intro a16 (And.intro a24 (And.intro a32 (And.intro a40 a48)))))))
    clear a0 a4 a8 a16 a24 a32 a40 a48 HB
    generalize b.length = n at *
    have w0 : IntKind.u32.wrap (x0 : Int) = (x0 : Int) := by rw [IntKind.wrap_u32]; omega
    have w4 : IntKind.u32.wrap (x4 : Int) = (x4 : Int) := by rw [IntKind.wrap_u32]; omega
    go_enter Tryz.func96, Tryz.ntmps96
    go_wp2_with fail
    have hkW : Keep No w (w.alloc (.cells #[.int .u32 0, .int .u32 0, .int .u64 0, .int .u64 0, .int .u64 0, .int .u64 0, .int .u64 0] 113)) := (Keep.refl _ _).alloc _
    have hBW : Blk (w.alloc (.cells #[.int .u32 0, .int .u32 0, .int .u64 0, .int .u64 0, .int .u64 0, .int .u64 0, .int .u64 0] 113)) w.heap.size #[.int .u32 0, .int .u32 0, .int .u64 0, .int .u64 0, .int .u64 0, .int .u64 0, .int .u64 0] 113 := Blk.new _ _ _
    have hzW : (w.alloc (.cells #[.int .u32 0, .int .u32 0, .int .u64 0, .int .u64 0, .int .u64 0, .int .u64 0, .int .u64 0] 113)).heap.size = w.heap.size + 1 := World.size_alloc _ _
    generalize w.alloc (.cells #[.int .u32 0, .int .u32 0, .int .u64 0, .int .u64 0, .int .u64 0, .int .u64 0, .int .u64 0] 113) = W at *
    refine (HA.out.2.2.2.1 W hkW).mono ?_
    rintro e V ⟨rfl, rfl⟩
    go_wp2_with fail
    refine (HA.out.2.2.2.2.1 W hkW).mono ?_
    rintro e V ⟨rfl, rfl⟩
    by_cases he : x16 = x24
    · have hq : ((x16 : Int) != (x24 : Int)) = false := by rw [bne_eq_false_iff_eq]; omega
      have hr := HR.out
      rw [if_pos he, HI.out] at hr
      subst hr
      go_wp2_with fail
      refine (HA.out.1 W hkW).mono ?_
      rintro e V ⟨rfl, rfl⟩
      go_wp2_with fail
      refine (HA.out.2.1 W hkW).mono ?_
      rintro e V ⟨rfl, rfl⟩
      go_wp2_with fail
      refine (HA.out.2.2.1 W hkW).mono ?_
      rintro e V ⟨rfl, rfl⟩
      go_wp2_with fail
      refine (HA.out.2.2.2.1 W hkW).mono ?_
      rintro e V ⟨rfl, rfl⟩
      go_wp2_with fail
      refine (HA.out.2.2.2.2.2.1 W hkW).mono ?_
      rintro e V ⟨rfl, rfl⟩
      go_wp2_with fail
      refine (HA.out.2.2.2.2.2.2.1 W hkW).mono ?_
      rintro e V ⟨rfl, rfl⟩
      go_wp2_with fail
      refine (HA.out.2.2.2.2.2.2.2 W hkW).mono ?_
      rintro e V ⟨rfl, rfl⟩
      go_wp2_with (with_reducible refine wl_stAgg rfl _ _ _ rfl _ _ rfl rfl ?_)
      refine rg_stAgg hBW (by kernel_rfl) (by rfl) (by simp [Value.oneCell']) ?_
      intro w3 hB3 hk3 _
      go_wp2_with fail
      refine ret_blk_tmp rfl rfl hB3 Tryz.underlying113 rfl (by kernel_rfl) rfl ?_
      exact ⟨rfl, hkW.trans hk3 fun j hj e => by have e2 : j = w.heap.size := e; omega⟩
    · have hq : ((x16 : Int) != (x24 : Int)) = true := by rw [bne_iff_ne]; omega
      have hr := HR.out
      rw [if_neg he] at hr
      subst hr
      go_wp2_with (with_reducible refine wl_stAgg rfl _ _ _ rfl _ _ rfl rfl ?_)
      refine rg_stAgg hBW (by kernel_rfl) (by rfl) (by simp [Value.oneCell']) ?_
      intro w3 hB3 hk3 _
      go_wp2_with fail
      refine ret_blk_tmp rfl rfl hB3 Tryz.underlying113 rfl (by kernel_rfl) rfl ?_
      exact ⟨rfl, hkW.trans hk3 fun j hj e => by have e2 : j = w.heap.size := e; omega⟩
theorem r04first_any (s : Sg) (hs : SgOk s) : Calls Tryz.prog 98 #[.agg (encSg s).toArray] w fun e w' => e = .returned (.int .u64 (firstM s : Nat)) ∧ Keep No w w' := by
  obtain ⟨x0, x1, x2, x3, x4, x5, x6⟩ := s
  have hx := hs.2.2.2.1
  dsimp only at hx
  unfold encSg
  dsimp only
  clear hs
  go_enter Tryz.func98, Tryz.ntmps98
  go_wp2_with fail
  have hkW : Keep No w (w.alloc (.cells #[.int .u32 (x0 : Int), .int .u32 (x1 : Int), .int .u64 (x2 : Int), .int .u64 (x3 : Int), .int .u64 (x4 : Int), .int .u64 (x5 : Int), .int .u64 (x6 : Int)] 113)) := (Keep.refl _ _).alloc _
  have hBW : Blk (w.alloc (.cells #[.int .u32 (x0 : Int), .int .u32 (x1 : Int), .int .u64 (x2 : Int), .int .u64 (x3 : Int), .int .u64 (x4 : Int), .int .u64 (x5 : Int), .int .u64 (x6 : Int)] 113)) w.heap.size #[.int .u32 (x0 : Int), .int .u32 (x1 : Int), .int .u64 (x2 : Int), .int .u64 (x3 : Int), .int .u64 (x4 : Int), .int .u64 (x5 : Int), .int .u64 (x6 : Int)] 113 := Blk.new _ _ _
  have hzW : (w.alloc (.cells #[.int .u32 (x0 : Int), .int .u32 (x1 : Int), .int .u64 (x2 : Int), .int .u64 (x3 : Int), .int .u64 (x4 : Int), .int .u64 (x5 : Int), .int .u64 (x6 : Int)] 113)).heap.size = w.heap.size + 1 := World.size_alloc _ _
  generalize w.alloc (.cells #[.int .u32 (x0 : Int), .int .u32 (x1 : Int), .int .u64 (x2 : Int), .int .u64 (x3 : Int), .int .u64 (x4 : Int), .int .u64 (x5 : Int), .int .u64 (x6 : Int)] 113) = W at *
  have d3 := hBW.cell 3
  go_wp2_with fail
  go_ret
  refine ⟨congrArg (fun z : Int => Ending.returned (Value.int .u64 z)) ?_, hkW⟩
  unfold firstM
  dsimp only
  omega
theorem r04behind_any (s : Sg) (hs : s.va + s.me ≤ 4294967296) : Calls Tryz.prog 99 #[.agg (encSg s).toArray] w fun e w' => e = .returned (.int .u64 (lastM s : Nat)) ∧ Keep No w w' := by
  obtain ⟨x0, x1, x2, x3, x4, x5, x6⟩ := s
  dsimp only at hs
  have hz : (x3 : Int) + (x5 : Int) ≤ 4294967296 := by omega
  unfold encSg
  dsimp only
  go_enter Tryz.func99, Tryz.ntmps99
  go_wp2_with fail
  have hkW : Keep No w (w.alloc (.cells #[.int .u32 (x0 : Int), .int .u32 (x1 : Int), .int .u64 (x2 : Int), .int .u64 (x3 : Int), .int .u64 (x4 : Int), .int .u64 (x5 : Int), .int .u64 (x6 : Int)] 113)) := (Keep.refl _ _).alloc _
  have hBW : Blk (w.alloc (.cells #[.int .u32 (x0 : Int), .int .u32 (x1 : Int), .int .u64 (x2 : Int), .int .u64 (x3 : Int), .int .u64 (x4 : Int), .int .u64 (x5 : Int), .int .u64 (x6 : Int)] 113)) w.heap.size #[.int .u32 (x0 : Int), .int .u32 (x1 : Int), .int .u64 (x2 : Int), .int .u64 (x3 : Int), .int .u64 (x4 : Int), .int .u64 (x5 : Int), .int .u64 (x6 : Int)] 113 := Blk.new _ _ _
  have hzW : (w.alloc (.cells #[.int .u32 (x0 : Int), .int .u32 (x1 : Int), .int .u64 (x2 : Int), .int .u64 (x3 : Int), .int .u64 (x4 : Int), .int .u64 (x5 : Int), .int .u64 (x6 : Int)] 113)).heap.size = w.heap.size + 1 := World.size_alloc _ _
  generalize w.alloc (.cells #[.int .u32 (x0 : Int), .int .u32 (x1 : Int), .int .u64 (x2 : Int), .int .u64 (x3 : Int), .int .u64 (x4 : Int), .int .u64 (x5 : Int), .int .u64 (x6 : Int)] 113) = W at *
  have d3 := hBW.cell 3
  have d5 := hBW.cell 5
  go_wp2_with fail
  go_ret
  refine ⟨congrArg (fun z : Int => Ending.returned (Value.int .u64 z)) ?_, hkW⟩
  unfold lastM
  dsimp only
  omega
set_option maxRecDepth 100000 in
theorem r04find_any (l : List Sg) (k : Nat) (hl : Fl A w 7 encSg v l) : Calls Tryz.prog 64 #[v, .int .u32 (k : Int)] w fun e w' => e = .returned (.int .i64 (fIdxZ l k)) ∧ w = w' := by
  have HL := Lib.hid hl
  obtain ⟨ao, co, rfl, hc1, hc2⟩ := hl.shape
  have hib : (l.length : Int) ≤ 9223372036854775807 := by unfold maxLen at hc2; omega
  obtain ⟨r, hr⟩ : ∃ r, r = fIdxZ l k := ⟨_, rfl⟩
  rw [← hr]
  have HR := Lib.hid hr
  obtain ⟨n, hn⟩ : ∃ n, n = l.length := ⟨_, rfl⟩
  have HN := Lib.hid hn
  rw [← hn] at hib ⊢
  clear hl hc1 hc2 hr hn
  have h0 : Hid (∀ j (h : j < l.length), j < 0 → l[j].ty ≠ k) := Lib.hid fun j _ h => absurd h (Nat.not_lt_zero _)
  go_enter Tryz.func64, Tryz.ntmps64
  go_wp2_with fail
  go_loopw [5] (fun iv wr => ∃ i : Nat, iv = .int .i64 (i : Int) ∧ i ≤ n ∧ Hid (∀ j (h : j < l.length), j < i → l[j].ty ≠ k) ∧ w = wr) (fun iv _ => n - (intOf iv).toNat)
  case atStart => exact ⟨0, rfl, Nat.zero_le _, h0, rfl⟩
  case round =>
    obtain ⟨i, rfl, hi, HM, rfl⟩ := hrel
    clear h0
    rcases Nat.lt_or_ge i n with hlt | hge
    · have hil : i < l.length := by rw [← HN.out]; exact hlt
      obtain ⟨g, off, cap, ev, _, hg, _, _, hc⟩ := HL.out.at encSg_len hil
      rw [← HN.out] at ev
      injection ev with e1 e2 e3
      subst e1 e3
      have d0 := hc 0 _ rfl
      have hiz : (i : Int) < (n : Int) := by omega
      have hfi := fIdx_at (k := k) hil
      generalize hs : l[i] = s at *
      have hstep : s.ty ≠ k → ∀ j (h : j < l.length), j < i + 1 → l[j].ty ≠ k := fun h j hj hj2 => by
        rcases Nat.lt_or_ge j i with h3 | h3
        · exact HM.out j hj h3
        · obtain rfl : j = i := by omega
          rw [hs]
          exact h
      have hfi2 : s.ty = k → r = (i : Int) := fun h => by
        rw [HR.out]
        unfold fIdxZ
        rw [hfi h fun j hj => HM.out j (by omega) hj]
      clear hc hs hfi e2
      rw [Nat.add_zero] at d0
      have HS := Lib.hid hstep
      have HF := Lib.hid hfi2
      clear hstep hfi2
      generalize s.ty = t at *
      by_cases h : t = k
      · subst h
        have hr := HF.out rfl
        subst hr
        have hq : ((t : Int) == (t : Int)) = true := by simp
        go_wp2_with fail
        go_ret
        exact ⟨rfl, rfl⟩
      · have hq : ((t : Int) == (k : Int)) = false := by rw [beq_eq_false_iff_ne]; omega
        have HM2 := Lib.hid (HS.out h)
        go_wp2_with fail
        go_roundw
        case rel => exact ⟨i + 1, by go_num, hlt, HM2, trivial⟩
        case measure => simp [intOf]; omega
    · obtain rfl : i = n := Nat.le_antisymm hi hge
      have hr : r = -1 := by
        rw [HR.out]
        unfold fIdxZ
        rw [fIdx_none fun j hj => HM.out j hj (by rw [HN.out]; exact hj)]
      subst hr
      go_wp2_with fail
      go_ret
      exact ⟨rfl, rfl⟩
end
end Go.Proofs.YtbnahidopemkiaaGreat
namespace Go.Proofs.YtbnahidopemkiaaGreat
open Go.RowKit Go.Dm Go.Dm.Oc Go.Dm.Ld
section
variable {A : Nat → Prop} {w : World} {v : Value}
set_option maxRecDepth 100000 in
set_option maxHeartbeats 4000000 in
theorem r04alone_any (s : Sg) (size : Nat) (hs : SgOk s) (hz : size < 18446744073709551616) : Calls Tryz.prog 97 #[.agg (encSg s).toArray, .int .u64 (size : Int)] w fun e w' => e = .returned (.int .i64 (oneE s size : Nat)) ∧ Keep No w w' := by
  obtain ⟨x0, x1, x2, x3, x4, x5, x6⟩ := s
  obtain ⟨r, hr⟩ : ∃ r, r = oneE ⟨x0, x1, x2, x3, x4, x5, x6⟩ size := ⟨_, rfl⟩
  rw [← hr]
  have HR := Lib.hid hr
  unfold encSg
  dsimp only
  obtain ⟨b0, b1, b2, b3, b4, b5, b6⟩ := hs
  dsimp only at b0 b1 b2 b3 b4 b5 b6
  clear hr
  go_enter Tryz.func97, Tryz.ntmps97
  go_wp2_with fail
  all_goals
    go_ret
    refine ⟨congrArg (fun z : Int => Ending.returned (Value.int .i64 z)) ?_, (Keep.refl _ _).alloc _⟩
    rw [HR.out]
    clear HR
    unfold oneE
    dsimp only
    repeat' split
    all_goals first
      | rfl
      | (exfalso
         simp only [kindB, decide_eq_false_iff_not, decide_eq_true_eq, beq_iff_eq, beq_eq_false_iff_ne, ne_eq] at *
         omega)
set_option maxRecDepth 100000 in
set_option maxHeartbeats 2000000 in
theorem r04place_any (l : List Sg) (addr size : Nat) (hl : Fl A w 7 encSg v l) (hok : ∀ x ∈ l, SgOk x) (hok2 : ∀ x ∈ l, x.ty = 1 → x.off + x.fi < 18446744073709551616) (ha : addr < 18446744073709551616) (hz : size < 18446744073709551616) :
    Calls Tryz.prog 129 #[v, .int .u64 (addr : Int), .int .u64 (size : Int)] w fun e w' => e = .returned (.tuple #[.int .u64 ((placeM l addr size).2 : Nat), .int .i64 ((placeM l addr size).1 : Nat)]) ∧ Keep No w w' := by
  have HL := Lib.hid hl
  have HOK := Lib.hid hok
  have HOK2 := Lib.hid hok2
  obtain ⟨ao, co, rfl, hc1, hc2⟩ := hl.shape
  have hib : (l.length : Int) ≤ 9223372036854775807 := by unfold maxLen at hc2; omega
  obtain ⟨r, hr⟩ : ∃ r, r = placeM l addr size := ⟨_, rfl⟩
  rw [← hr]
  have HR : Hid (r = placeM (l.drop 0) addr size) := Lib.hid hr
  obtain ⟨n, hn⟩ : ∃ n, n = l.length := ⟨_, rfl⟩
  have HN := Lib.hid hn
  rw [← hn] at hib ⊢
  clear hl hc1 hc2 hr hn hok hok2
  by_cases hs0 : size = 0
  · subst hs0
    have hp : ∀ q : List Sg, placeM q addr 0 = (40, 0) := fun q => by
      induction q with
      | nil => rfl
      | cons s q ih =>
        unfold placeM
        rw [if_neg (by unfold holdsB; simp), ih]
    have hr := HR.out
    rw [hp] at hr
    subst hr
    go_enter Tryz.func129, Tryz.ntmps129
    go_wp2_with fail
    go_ret2
    exact ⟨rfl, Keep.refl _ _⟩
  · have gs : ((size : Int) == 0) = false := by rw [beq_eq_false_iff_ne]; omega
    go_enter Tryz.func129, Tryz.ntmps129
    go_wp2_with fail
    go_loopw [8, 9] (fun iv _ wr => ∃ i : Nat, iv = .int .i64 (i : Int) ∧ i ≤ n ∧ Hid (r = placeM (l.drop i) addr size) ∧ Keep No w wr) (fun iv _ _ => n - (intOf iv).toNat)
    case atStart => exact ⟨0, rfl, Nat.zero_le _, HR, Keep.refl _ _⟩
    case round =>
      obtain ⟨i, rfl, hi, HM, hk⟩ := hrel
      clear HR
      generalize wr = wz at *
      rcases Nat.lt_or_ge i n with hlt | hge
      · have hil : i < l.length := by rw [← HN.out]; exact hlt
        obtain ⟨g, off, cap, ev, _, hg, _, _, hc⟩ := (HL.out.no hk).at encSg_len hil
        rw [← HN.out] at ev
        injection ev with e1 e2 e3
        subst e1 e3
        have hiz : (i : Int) < (n : Int) := by omega
        have hsk := HOK.out _ (List.getElem_mem hil)
        have hsk2 := HOK2.out _ (List.getElem_mem hil)
        have hm := HM.out
        rw [List.drop_eq_getElem_cons hil] at hm
        unfold placeM at hm
        generalize l[i] = s at *
        have hone : (encSg s).toArray.all (·.oneCell') = true := by simp [encSg, Value.oneCell']
        have HM2 := Lib.hid hm
        clear hm e2 HM
        go_wp2_with (first | (with_reducible refine wl_ld rfl _ 113 rfl _ rfl ?_) | (with_reducible refine wl_stAgg rfl _ _ _ rfl _ _ rfl rfl ?_))
        refine rg_lds (l := encSg s) hc Tryz.underlying113 rfl (by kernel_rfl) ?_
        go_wp2_with (first | (with_reducible refine wl_ld rfl _ 113 rfl _ rfl ?_) | (with_reducible refine wl_stAgg rfl _ _ _ rfl _ _ rfl rfl ?_))
        have hkW : Keep No wz (wz.alloc (.cells #[.int .u32 0, .int .u32 0, .int .u64 0, .int .u64 0, .int .u64 0, .int .u64 0, .int .u64 0] 113)) := (Keep.refl _ _).alloc _
        have hBW : Blk (wz.alloc (.cells #[.int .u32 0, .int .u32 0, .int .u64 0, .int .u64 0, .int .u64 0, .int .u64 0, .int .u64 0] 113)) wz.heap.size #[.int .u32 0, .int .u32 0, .int .u64 0, .int .u64 0, .int .u64 0, .int .u64 0, .int .u64 0] 113 := Blk.new _ _ _
        have hzW : (wz.alloc (.cells #[.int .u32 0, .int .u32 0, .int .u64 0, .int .u64 0, .int .u64 0, .int .u64 0, .int .u64 0] 113)).heap.size = wz.heap.size + 1 := World.size_alloc _ _
        generalize wz.alloc (.cells #[.int .u32 0, .int .u32 0, .int .u64 0, .int .u64 0, .int .u64 0, .int .u64 0, .int .u64 0] 113) = W at *
        refine rg_stAgg hBW (by kernel_rfl) (by rfl) hone ?_
        intro w3 hB3 hk3 hz3
        have hkF : Keep No w w3 := hk.trans' (hkW.trans hk3 fun j hj e => by have e2 : j = wz.heap.size := e; omega)
        clear hBW hkW hzW hk3 hz3 hc hk hone
        obtain ⟨x0, x1, x2, x3, x4, x5, x6⟩ := s
        obtain ⟨b0, b1, b2, b3, b4, b5, b6⟩ := hsk
        dsimp only at b0 b1 b2 b3 b4 b5 b6 hsk2
        have d0 : w3.cell? ⟨wz.heap.size, 0, none⟩ = some (.int .u32 (x0 : Int)) := hB3.cell 0
        have d2 : w3.cell? ⟨wz.heap.size, 2, none⟩ = some (.int .u64 (x2 : Int)) := hB3.cell 2
        have d3 : w3.cell? ⟨wz.heap.size, 3, none⟩ = some (.int .u64 (x3 : Int)) := hB3.cell 3
        have d4 : w3.cell? ⟨wz.heap.size, 4, none⟩ = some (.int .u64 (x4 : Int)) := hB3.cell 4
        clear hB3
        have hgo : holdsB ⟨x0, x1, x2, x3, x4, x5, x6⟩ addr size = false → r = placeM (l.drop (i + 1)) addr size := fun h => by
          rw [HM2.out, if_neg (by rw [h]; decide)]
        have hst : holdsB ⟨x0, x1, x2, x3, x4, x5, x6⟩ addr size = true → r = (0, x2 + (addr - x3)) := fun h => by
          rw [HM2.out, if_pos h]
        have HGO := Lib.hid hgo
        have HST := Lib.hid hst
        clear hgo hst HM2
        by_cases h0 : x0 = 1
        · have g0 : ((x0 : Int) != 1) = false := by rw [bne_eq_false_iff_eq]; omega
          have hno := hsk2 h0
          rcases Nat.lt_or_ge addr x3 with h3 | h3
          · have g3 : (addr : Int) < (x3 : Int) := by omega
            have HG2 := Lib.hid (HGO.out (by unfold holdsB; rw [decide_eq_false_iff_not]; dsimp only; omega))
            go_wp2_with fail
            go_roundw
            case rel => exact ⟨i + 1, by go_num, hlt, HG2, hkF⟩
            case measure => simp [intOf]; omega
          · have g3 : (x3 : Int) ≤ (addr : Int) := by omega
            obtain ⟨d, hd⟩ : ∃ d, d = addr - x3 := ⟨_, rfl⟩
            have hw : IntKind.u64.wrap ((addr : Int) - (x3 : Int)) = (d : Int) := by rw [IntKind.wrap_u64]; omega
            rcases Nat.lt_or_ge x4 d with h4 | h4
            · have g4 : (x4 : Int) < (d : Int) := by omega
              have HG2 := Lib.hid (HGO.out (by unfold holdsB; rw [decide_eq_false_iff_not]; dsimp only; omega))
              go_wp2_with fail
              go_roundw
              case rel => exact ⟨i + 1, by go_num, hlt, HG2, hkF⟩
              case measure => simp [intOf]; omega
            · have g4 : (d : Int) ≤ (x4 : Int) := by omega
              obtain ⟨d2, hd2⟩ : ∃ d2, d2 = x4 - d := ⟨_, rfl⟩
              have hw2 : IntKind.u64.wrap ((x4 : Int) - (d : Int)) = (d2 : Int) := by rw [IntKind.wrap_u64]; omega
              rcases Nat.lt_or_ge d2 size with h5 | h5
              · have g5 : (d2 : Int) < (size : Int) := by omega
                have HG2 := Lib.hid (HGO.out (by unfold holdsB; rw [decide_eq_false_iff_not]; dsimp only; omega))
                go_wp2_with fail
                go_roundw
                case rel => exact ⟨i + 1, by go_num, hlt, HG2, hkF⟩
                case measure => simp [intOf]; omega
              · have g5 : (size : Int) ≤ (d2 : Int) := by omega
                have hr := HST.out (by unfold holdsB; rw [decide_eq_true_eq]; dsimp only; omega)
                rw [← hd] at hr
                obtain ⟨rr, hrr⟩ : ∃ q, q = x2 + d := ⟨_, rfl⟩
                have hw3 : IntKind.u64.wrap ((x2 : Int) + (d : Int)) = (rr : Int) := by rw [IntKind.wrap_u64]; omega
                rw [← hrr] at hr
                subst hr
                clear hrr
                clear hd hd2 HGO HST
                go_wp2_with fail
                go_ret2
                exact ⟨rfl, hkF⟩
        · have g0 : ((x0 : Int) != 1) = true := by rw [bne_iff_ne]; omega
          have HG2 := Lib.hid (HGO.out (by unfold holdsB; rw [decide_eq_false_iff_not]; dsimp only; omega))
          go_wp2_with fail
          go_roundw
          case rel => exact ⟨i + 1, by go_num, hlt, HG2, hkF⟩
          case measure => simp [intOf]; omega
      · obtain rfl : i = n := Nat.le_antisymm hi hge
        have hr := HM.out
        rw [List.drop_of_length_le (by rw [← HN.out]; exact Nat.le_refl _)] at hr
        unfold placeM at hr
        subst hr
        go_wp2_with fail
        go_ret2
        exact ⟨rfl, hk⟩
end
end Go.Proofs.YtbnahidopemkiaaGreat
