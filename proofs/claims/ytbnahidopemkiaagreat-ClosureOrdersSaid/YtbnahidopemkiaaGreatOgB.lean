/- The document's order. No condition. -/
import Derived.Test.YtbnahidopemkiaaGreatOgA
import Derived.Test.YtbnahidopemkiaaGreatDzK
import Derived.Test.YtbnahidopemkiaaGreatDzD
import Derived.Test.YtbnahidopemkiaaGreatWhN
import Derived.Test.YtbnahidopemkiaaGreatCl4
set_option linter.unusedVariables false
set_option linter.unusedSimpArgs false
namespace Go.Dm.Ld
open Go
theorem findF_idx (fs : Fs) (n : BS) : match sIdx (fs.map (·.1)) n with | some p => ∃ h : p < fs.length, findF fs n = some fs[p].2 | none => findF fs n = none := by
  induction fs with
  | nil => rfl
  | cons f r ih =>
    rw [List.map_cons]
    unfold sIdx findF
    by_cases h : f.1 = n
    · rw [if_pos h, List.find?_cons_of_pos (by simpa using h)]
      exact ⟨Nat.succ_pos _, rfl⟩
    · rw [if_neg h, List.find?_cons_of_neg (by simpa using h)]
      unfold findF at ih
      cases hs : sIdx (r.map (·.1)) n with
      | none => rw [hs] at ih; exact ih
      | some p =>
        rw [hs] at ih
        obtain ⟨h1, h2⟩ := ih
        exact ⟨Nat.succ_lt_succ h1, h2⟩
/-- how far Order has come -/
structure OzL (fs : Fs) (res : Nat × List (BS × Im)) (i : Nat) (names : List BS) (out : List (BS × Im)) : Prop where
  ni : out.length = i
  go : orderGo fs (8 - i) names out = res
  wh : WhI names out
structure OzN (names need : List BS) (j : Nat) (names' : List BS) : Prop where
  hj : j ≤ need.length
  h8 : names'.length ≤ 8
  go : addN names' (need.drop j) = addN names need
end Go.Dm.Ld
namespace Go.Dm
open Go Go.RowKit
theorem run_bldo {P : Program} {a : Act} {o : Oper} {w' : World} (t : TypeId) (ps : Array (Nat × Operand)) (ho : o.op = .build t ps) {cells : Array Value} (hb : P.built t (ps.map fun (i, x) => (i, a.eval x)).toList = some cells) : (execOp a.eval o).run P w' = .ok (.value (.agg cells)) w' := by
  unfold execOp
  simp only [ho, Sem.run_bind, run_build w' t _ cells hb, Result.andThen_ok, Sem.run_pure]
end Go.Dm
namespace Go.Proofs.YtbnahidopemkiaaGreat
open Go.RowKit Go.Dm Go.Dm.Oc Go.Dm.Ld
theorem u15_info : (Tryz.prog.info? 74).map (fun i => (i.zero, i.size, i.bytes)) = some (some (.agg #[.string ⟨#[]⟩, .int .i64 0, .int .u64 0, .int .u64 0, .int .i64 0, .slice none 0 0, .string ⟨#[]⟩, .slice none 0 0, .slice none 0 0, .slice none 0 0, .slice none 0 0, .slice none 0 0]), 12, 208) := by kernel_rfl
/-- names and units while Order runs -/
structure OzS (A : Nat → Prop) (w wr : World) (vn vo : Value) (names : List BS) (ps : List UC) (out : List (BS × Im)) : Prop where
  nm : FlO wr w.heap.size 9 1 encS vn names
  ou : FlO wr w.heap.size 74 12 encU vo ps
  un : UsOk (fun k => (w.heap.size ≤ k ∧ some k ≠ vn.ownBlock ∧ some k ≠ vo.ownBlock) ∨ (A k ∧ k < w.heap.size)) wr ps out
  sep : ∀ g, vo.ownBlock = some g → vn.ownBlock ≠ some g
  kw : Keep No w wr
section
variable {A : Nat → Prop} {w wr w2 : World} {vn vo vn' vo' : Value} {names names' : List BS} {ps : List UC} {out : List (BS × Im)}
theorem OzS.no (h : OzS A w wr vn vo names ps out) (hk : Keep No wr w2) : OzS A w w2 vn vo names ps out :=
  ⟨h.nm.no hk, h.ou.no hk, h.un.keep hk fun _ _ _ h => h, h.sep, h.kw.trans' hk⟩
theorem OzS.push (h : OzS A w wr vn vo names ps out) (ho : FlO w2 w.heap.size 9 1 encS vn' names') (hk : Keep (fun j => some j = vn.ownBlock) wr w2) (hn : vn'.ownBlock = vn.ownBlock ∨ vn'.ownBlock = some (wr.heap.size + 1)) :
    OzS A w w2 vn' vo names' ps out := by
  have hup : ∀ k, k < wr.heap.size → ((w.heap.size ≤ k ∧ some k ≠ vn.ownBlock ∧ some k ≠ vo.ownBlock) ∨ (A k ∧ k < w.heap.size)) → ¬ some k = vn.ownBlock := fun k _ ha e => by
    rcases ha with ha | ha
    · exact ha.2.1 e
    · exact absurd (World.ownsRow.lt h.nm k e.symm).1 (by omega)
  refine ⟨ho, h.ou.same fun g hg => hk.block g (World.ownsRow.lt h.ou g hg).2 fun e => h.sep g hg e.symm, ?_, fun g hg e => ?_, h.kw.own h.nm hk⟩
  · refine UsOk.mono ((h.un.mono (B := fun k => k < wr.heap.size ∧ ((w.heap.size ≤ k ∧ some k ≠ vn.ownBlock ∧ some k ≠ vo.ownBlock) ∨ (A k ∧ k < w.heap.size))) fun k h1 h2 => ⟨h1, h2⟩).keep hk fun k hk2 ha => hup k hk2 ha.2) fun k _ ha => ?_
    rcases ha.2 with hb | hb
    · refine .inl ⟨hb.1, ?_, hb.2.2⟩
      rcases hn with e | e
      · rw [e]; exact hb.2.1
      · rw [e]
        intro e2
        cases e2
        have := ha.1
        omega
    · exact .inr hb
  · rcases hn with e2 | e2
    · exact h.sep g hg (e2 ▸ e)
    · rw [e2] at e
      cases e
      have := (World.ownsRow.lt h.ou _ hg).2
      omega
theorem OzS.unit {p : UC} {u : BS × Im} (h : OzS A w wr vn vo names ps out) (ho : FlO w2 w.heap.size 74 12 encU vo' (ps ++ [p])) (hk : Keep (fun j => some j = vo.ownBlock) wr w2) (hn : vo'.ownBlock = vo.ownBlock ∨ vo'.ownBlock = some (wr.heap.size + 1))
    (hu : UnOk (fun k => (w.heap.size ≤ k ∧ some k ≠ vn.ownBlock ∧ some k ≠ vo.ownBlock) ∨ (A k ∧ k < w.heap.size)) wr p u) : OzS A w w2 vn vo' names (ps ++ [p]) (out ++ [u]) := by
  have hup : ∀ k, k < wr.heap.size → ((w.heap.size ≤ k ∧ some k ≠ vn.ownBlock ∧ some k ≠ vo.ownBlock) ∨ (A k ∧ k < w.heap.size)) → ¬ some k = vo.ownBlock := fun k _ ha e => by
    rcases ha with ha | ha
    · exact ha.2.2 e
    · exact absurd (World.ownsRow.lt h.ou k e.symm).1 (by omega)
  have hup2 : ∀ k, (k < wr.heap.size ∧ ((w.heap.size ≤ k ∧ some k ≠ vn.ownBlock ∧ some k ≠ vo.ownBlock) ∨ (A k ∧ k < w.heap.size))) → ((w.heap.size ≤ k ∧ some k ≠ vn.ownBlock ∧ some k ≠ vo'.ownBlock) ∨ (A k ∧ k < w.heap.size)) := fun k ha => by
    rcases ha.2 with hb | hb
    · refine .inl ⟨hb.1, hb.2.1, ?_⟩
      rcases hn with e | e
      · rw [e]; exact hb.2.2
      · rw [e]
        intro e2
        cases e2
        have := ha.1
        omega
    · exact .inr hb
  have hus := ((h.un.mono (B := fun k => k < wr.heap.size ∧ ((w.heap.size ≤ k ∧ some k ≠ vn.ownBlock ∧ some k ≠ vo.ownBlock) ∨ (A k ∧ k < w.heap.size))) fun k h1 h2 => ⟨h1, h2⟩).keep hk fun k hk2 ha => hup k hk2 ha.2).mono (B := fun k => (w.heap.size ≤ k ∧ some k ≠ vn.ownBlock ∧ some k ≠ vo'.ownBlock) ∨ (A k ∧ k < w.heap.size)) fun k _ ha => hup2 k ha
  have huu := ((hu.mono (B := fun k => k < wr.heap.size ∧ ((w.heap.size ≤ k ∧ some k ≠ vn.ownBlock ∧ some k ≠ vo.ownBlock) ∨ (A k ∧ k < w.heap.size))) fun k h1 h2 => ⟨h1, h2⟩).keep hk fun k hk2 ha => hup k hk2 ha.2).mono (B := fun k => (w.heap.size ≤ k ∧ some k ≠ vn.ownBlock ∧ some k ≠ vo'.ownBlock) ∨ (A k ∧ k < w.heap.size)) fun k _ ha => hup2 k ha
  refine ⟨h.nm.same fun g hg => hk.block g (World.ownsRow.lt h.nm g hg).2 fun e => h.sep g e.symm hg, ho, ⟨by rw [List.length_append, List.length_append, hus.1]; rfl, fun i q x hq hx => ?_⟩, fun g hg e => ?_, h.kw.own h.ou hk⟩
  · rcases Nat.lt_or_ge i ps.length with hl | hl
    · rw [List.getElem?_append_left hl] at hq
      rw [List.getElem?_append_left (by rw [← hus.1]; exact hl)] at hx
      exact hus.2 i q x hq hx
    · rw [List.getElem?_append_right hl] at hq
      rw [List.getElem?_append_right (by rw [← hus.1]; exact hl), ← hus.1] at hx
      cases hi : i - ps.length with
      | zero =>
        rw [hi] at hq hx
        cases hq
        cases hx
        exact huu
      | succ m =>
        rw [hi] at hq
        cases hq
  · rcases hn with e2 | e2
    · exact h.sep g (e2 ▸ hg) e
    · rw [e2] at hg
      cases hg
      have := (World.ownsRow.lt h.nm _ e).2
      omega
end
section
variable {A B : Nat → Prop} {w : World} {v : Value} {fs : Fs}
theorem FiR.in_ (h : FiR A w v fs) : FiR (fun k => A k ∧ k < w.heap.size) w v fs := by
  obtain ⟨ps, h1, h2, h3⟩ := h
  exact ⟨ps, h1, h2.mono fun k hk ha => ⟨ha, hk⟩, fun i p f hp hf => ⟨(h3 i p f hp hf).1, Sl.mono (h3 i p f hp hf).2 fun k hk ha => ⟨ha, hk⟩⟩⟩
set_option maxRecDepth 100000 in
set_option maxHeartbeats 6000000 in
theorem r15order_any (root : BS) (hf : FiR A w v fs) (hfl : ∀ f ∈ fs, f.2.length ≤ 1000000000) :
    Calls Tryz.prog 8 #[.string ⟨root.toArray⟩, v] w (Or15 A w (orderM root fs)) := by
  obtain ⟨res, hres⟩ : ∃ r, r = orderM root fs := ⟨_, rfl⟩
  rw [← hres]
  have hL0 : OzL fs res 0 [root] [] := ⟨rfl, hres.symm, ⟨rfl, Nat.zero_le _, by show 1 ≤ 8; decide, by simp, fun i h h0 => by simp at h; omega, fun u hu => by cases hu⟩⟩
  obtain ⟨af, nf, cf, rfl⟩ : ∃ a n c, v = .slice a n c := by
    obtain ⟨ps, _, h, _⟩ := hf
    obtain ⟨a, c, e, _⟩ := h.shape
    exact ⟨_, _, _, e⟩
  have HF := Lib.hid hf.in_
  have HFL := Lib.hid hfl
  obtain ⟨bs, hbs⟩ : ∃ bs : ByteArray, bs = ⟨root.toArray⟩ := ⟨_, rfl⟩
  rw [← hbs]
  have HBS := Lib.hid hbs
  clear hf hfl hres hbs
  go_enter Tryz.func8, Tryz.ntmps8
  go_upto_block 0 with fail
  have hkW : Keep No w (w.alloc (.cells #[.string bs] 9)) := (Keep.refl _ _).alloc _
  have hBW : Blk (w.alloc (.cells #[.string bs] 9)) w.heap.size #[.string bs] 9 := Blk.new _ _ _
  have hzW : (w.alloc (.cells #[.string bs] 9)).heap.size = w.heap.size + 1 := World.size_alloc _ _
  generalize w.alloc (.cells #[.string bs] 9) = W at *
  have hN0 : FlO W w.heap.size 9 1 encS (.slice (some ⟨w.heap.size, 0, none⟩) 1 1) [root] := by
    have h := own_blk hBW (Nat.le_refl w.heap.size) (n := 1) (size := 1) rfl (by unfold maxLen; omega)
    rw [HBS.out] at h
    exact h
  have hO0 : OzS A w W (.slice (some ⟨w.heap.size, 0, none⟩) 1 1) (.slice none 0 0) [root] [] [] := ⟨hN0, FlO.nil, ⟨rfl, fun i p u h => by simp at h⟩, fun g hg => (by cases hg), hkW⟩
  clear hN0 hBW hkW hzW
  go_cut [6, 7, 8, 9, 10, 11, 12] from 23 (fun vn vo _ _ _ _ _ wc => ∃ (names : List BS) (ps : List UC) (out : List (BS × Im)), OzS A w wc vn vo names ps out ∧ WhI names out ∧ names.length ≤ out.length ∧ res = if cycB out then (30, []) else (0, out))
  case rest =>
    obtain ⟨names, ps, out, hO, hW, hle, hres⟩ := hcut
    have hnm : out.map (·.1) = names := by rw [hW.nm, List.take_of_length_le hle]
    refine use_k (by assumption) ?_
    exact ord_cyc (A := A) (hO.nm.fl.mono fun j _ ha => ha.1) (hO.ou.fl.mono fun j _ ha => ha.1) (hO.un.mono fun j _ ha => ha.imp (·.1) (·.1)) hnm hW.nd hW.all (Nat.le_trans hW.le hW.h8) hres hO.kw
  case first =>
    go_wp2_with fail
    go_loopw [6, 7, 8, 9, 10, 11, 12] (fun vn vo iv _ _ _ _ wr => ∃ (i : Nat) (names : List BS) (ps : List UC) (out : List (BS × Im)), iv = .int .i64 (i : Int) ∧ OzS A w wr vn vo names ps out ∧ OzL fs res i names out) (fun _ _ iv _ _ _ _ _ => 8 - (intOf iv).toNat)
    case atStart => exact ⟨0, _, _, _, rfl, hO0, hL0⟩
    case round =>
      clear hO0 hL0
      obtain ⟨i, names, ps, out, rfl, hO, hL⟩ := hrel
      generalize wr = wz at *
      obtain ⟨an, cn, en, _, _⟩ := hO.nm.fl.shape
      subst en
      obtain ⟨ao, lo, co, rfl⟩ : ∃ a n c, u7 = .slice a n c := by
        obtain ⟨a, c, e, _⟩ := hO.ou.fl.shape
        exact ⟨_, _, _, e⟩
      have h8 := hL.wh.h8
      have hile := hL.wh.le
      rw [hL.ni] at hile
      rcases Nat.lt_or_ge i names.length with hlt | hge
      · obtain ⟨g1, off, cap, ev, _, _, _, _, hc⟩ := hO.nm.fl.at (fun _ => rfl) hlt
        injection ev with e1 e2 e3
        subst e1 e3
        have c0 := hc 0 _ rfl
        rw [Nat.add_zero, Nat.mul_one] at c0
        have hiz : (i : Int) < (names.length : Int) := by omega
        have hfind := r15find_any (w := wz) (v := .slice af nf cf) fs names[i] (HF.out.no hO.kw)
        have hfx := findF_idx fs names[i]
        have hfst : ((i : Int) == 0) = decide (out.length = 0) := by
          rw [Bool.eq_iff_iff, beq_iff_eq, decide_eq_true_eq, hL.ni]
          omega
        have hgo : res = if (unitM names[i] fs (decide (out.length = 0))).1 ≠ 0 then ((unitM names[i] fs (decide (out.length = 0))).1, []) else
            match addN names (unitM names[i] fs (decide (out.length = 0))).2.need with
            | none => (13, [])
            | some names' => orderGo fs (8 - (i + 1)) names' (out ++ [(names[i], (unitM names[i] fs (decide (out.length = 0))).2)]) := by
          obtain ⟨k, hk⟩ : ∃ k, 8 - i = k + 1 := ⟨7 - i, by omega⟩
          have h := hL.go
          rw [hk] at h
          rw [← h, show 8 - (i + 1) = k from by omega]
          have hni : names[out.length]? = some names[i] := by rw [hL.ni]; exact List.getElem?_eq_getElem hlt
          conv => lhs; unfold orderGo
          rw [hni]
          rfl
        have hum : unitM names[i] fs (decide (out.length = 0)) = match findF fs names[i] with
            | none => (31, im0)
            | some b => if (parseM b).1 ≠ 0 then ((parseM b).1, im0) else if decide (out.length = 0) = decide ((parseM b).2.hd.kind = 2) then (0, (parseM b).2) else (11, im0) := rfl
        generalize decide (out.length = 0) = fb at *
        generalize unitM names[i] fs fb = um at *
        obtain ⟨n, hn⟩ : ∃ n, n = names[i] := ⟨_, rfl⟩
        rw [← hn] at hgo hfind c0 hfx hum
        have HN := Lib.hid hn
        obtain ⟨nb, hnb⟩ : ∃ nb : ByteArray, nb = ⟨n.toArray⟩ := ⟨_, rfl⟩
        rw [← hnb] at hfind c0
        have HNB := Lib.hid hnb
        have HG := Lib.hid hgo
        have HU := Lib.hid hum
        clear hn hnb hgo hum hc e2
        unfold sIdxZ at hfind
        cases hsx : sIdx (fs.map (·.1)) n with
        | none =>
          rw [hsx] at hfx hfind
          dsimp only at hfind hfx
          have hu := HU.out
          rw [hfx] at hu
          replace hu : um = (31, im0) := hu
          have hr := HG.out
          rw [hu, if_pos (by decide)] at hr
          subst hr
          clear hu HG HU hfst hsx
          go_wp2_with fail
          refine hfind.mono ?_
          clear hfind
          rintro e wq ⟨rfl, rfl⟩
          go_wp2_with fail
          go_ret2
          exact ⟨_, [], rfl, Fl.nil, ⟨rfl, fun i p u hp => by simp at hp⟩, hO.kw⟩
        | some p =>
          rw [hsx] at hfx hfind
          dsimp only at hfind hfx
          obtain ⟨hpl, hfx⟩ := hfx
          have hu := HU.out
          rw [hfx] at hu
          dsimp only at hu
          obtain ⟨fps, hfl1, hfl2, hfl3⟩ := HF.out.no hO.kw
          obtain ⟨g2, off2, cap2, ev, _, _, _, _, hc2⟩ := hfl2.at encP_len (by rw [hfl1]; exact hpl : p < fps.length)
          injection ev with e1 e2 e3
          subst e1 e2 e3
          have hfo := hfl3 p _ _ (List.getElem?_eq_getElem (by rw [hfl1]; exact hpl)) (List.getElem?_eq_getElem hpl)
          have c1 := hc2 1 _ rfl
          have hbb := hfo.2
          have hfb := HFL.out _ (List.getElem_mem hpl)
          have hpz : (p : Int) < (fps.length : Int) := by rw [hfl1]; omega
          have hpi : (fps.length : Int) ≤ 9223372036854775807 := by
            obtain ⟨_, _, _, _, hq⟩ := hfl2.shape
            have : fps.length ≤ maxLen := by
              obtain ⟨a, c, e, h1, h2⟩ := hfl2.shape
              omega
            unfold maxLen at this
            omega
          generalize (fps[p]).2 = bv at *
          generalize fs[p].2 = b at *
          clear hfo hc2 hfl3 hfl2
          generalize fps.length = nf at *
          have hpar := fun W (k : Keep No wz W) => r09parse_any (w := W) b (Sl.keep hbb k fun _ _ _ h => h) hfb
          obtain ⟨pm, hpm⟩ : ∃ q, q = parseM b := ⟨_, rfl⟩
          rw [← hpm] at hu hpar
          obtain ⟨pe, pi⟩ := pm
          dsimp only at hu hpar
          have HPA := Lib.hid hpar
          have HU2 := Lib.hid hu
          clear hu HU hpm hpar hfx hsx hbb hfl1
          go_wp2_with fail
          refine hfind.mono ?_
          clear hfind
          rintro e wq ⟨rfl, rfl⟩
          go_wp2_with fail
          refine (HPA.out _ (Keep.refl _ _)).mono ?_
          rintro e w4 ⟨cs, rfl, hone, him, hk4⟩
          have him4 := him
          obtain ⟨vs, vn, vm, vy, vr, vb, rfl, h1', h2', h3', h4', h5', h6'⟩ := him
          obtain ⟨s1, q1, rfl, _, _⟩ := h1'.shape
          obtain ⟨s2, q2, rfl, _, hq2⟩ := h2'.shape
          obtain ⟨s3, q3, rfl, _, _⟩ := h3'.shape
          obtain ⟨s4, q4, rfl, _, _⟩ := h4'.shape
          obtain ⟨s5, q5, rfl, _, _⟩ := h5'.shape
          obtain ⟨s6, q6, rfl, _, _⟩ := Sl.shape h6'
          have hnq : (pi.need.length : Int) ≤ 9223372036854775807 := by unfold maxLen at hq2; omega
          have hnw : ∀ k, some k = (Value.slice (some ⟨g1, off, none⟩) names.length cn).ownBlock → k < wz.heap.size := fun k hk => (World.ownsRow.lt hO.nm k hk.symm).2
          have how : ∀ k, some k = (Value.slice ao lo co).ownBlock → k < wz.heap.size := fun k hk => (World.ownsRow.lt hO.ou k hk.symm).2
          have hwz := hO.kw.size
          have hO4 := hO.no hk4
          have him5 := him4.mono (B := fun k => (w.heap.size ≤ k ∧ some k ≠ (Value.slice (some ⟨g1, off, none⟩) names.length cn).ownBlock ∧ some k ≠ (Value.slice ao lo co).ownBlock) ∨ (A k ∧ k < w.heap.size)) fun k _ hk => by
            rcases hk with hk | hk
            · exact .inl ⟨by omega, fun e => absurd (hnw k e) (by omega), fun e => absurd (how k e) (by omega)⟩
            · exact .inr hk
          have hnw4 : ∀ k, some k = (Value.slice (some ⟨g1, off, none⟩) names.length cn).ownBlock → k < w4.heap.size := fun k hk => Nat.lt_of_lt_of_le (hnw k hk) hk4.size
          have how4 : ∀ k, some k = (Value.slice ao lo co).ownBlock → k < w4.heap.size := fun k hk => Nat.lt_of_lt_of_le (how k hk) hk4.size
          clear him4 h1' h2' h3' h4' h5' h6' hO hk4 hnw how hwz c0 c1 hq2 HPA
          go_wp2_with (with_reducible refine wl_stAgg rfl _ _ _ rfl _ _ rfl rfl ?_)
          have hkW5 : Keep No w4 (w4.alloc (.cells #[.int .i64 0, .int .u64 0, .int .u64 0, .int .i64 0, .slice none 0 0, .string ⟨#[]⟩, .slice none 0 0, .slice none 0 0, .slice none 0 0, .slice none 0 0, .slice none 0 0] 70)) := (Keep.refl _ _).alloc _
          have hBW5 : Blk (w4.alloc (.cells #[.int .i64 0, .int .u64 0, .int .u64 0, .int .i64 0, .slice none 0 0, .string ⟨#[]⟩, .slice none 0 0, .slice none 0 0, .slice none 0 0, .slice none 0 0, .slice none 0 0] 70)) w4.heap.size #[.int .i64 0, .int .u64 0, .int .u64 0, .int .i64 0, .slice none 0 0, .string ⟨#[]⟩, .slice none 0 0, .slice none 0 0, .slice none 0 0, .slice none 0 0, .slice none 0 0] 70 := Blk.new _ _ _
          have hzW5 : (w4.alloc (.cells #[.int .i64 0, .int .u64 0, .int .u64 0, .int .i64 0, .slice none 0 0, .string ⟨#[]⟩, .slice none 0 0, .slice none 0 0, .slice none 0 0, .slice none 0 0, .slice none 0 0] 70)).heap.size = w4.heap.size + 1 := World.size_alloc _ _
          generalize w4.alloc (.cells #[.int .i64 0, .int .u64 0, .int .u64 0, .int .i64 0, .slice none 0 0, .string ⟨#[]⟩, .slice none 0 0, .slice none 0 0, .slice none 0 0, .slice none 0 0, .slice none 0 0] 70) = W5 at *
          refine rg_stAgg hBW5 (by kernel_rfl) (by rfl) hone ?_
          intro w6 hX6 hk6 hz6
          have hk46 : Keep No w4 w6 := hkW5.trans hk6 fun j hj e => by have e2 : j = w4.heap.size := e; omega
          have hO6 := hO4.no hk46
          have him6 := him5.no hk46
          have hwx : w.heap.size ≤ w4.heap.size := hO4.kw.size
          have hnx : some w4.heap.size ≠ (Value.slice (some ⟨g1, off, none⟩) names.length cn).ownBlock := fun e => absurd (hnw4 _ e) (Nat.lt_irrefl _)
          have hox : some w4.heap.size ≠ (Value.slice ao lo co).ownBlock := fun e => absurd (how4 _ e) (Nat.lt_irrefl _)
          have hxl := hX6.lt
          generalize w4.heap.size = xb at *
          clear hO4 him5 hBW5 hkW5 hk6 hz6 hzW5 hk46 hnw4 how4
          by_cases h0 : pe = 0
          · subst h0
            have hu := HU2.out
            rw [if_neg (by decide)] at hu
            have hkd : ((pi.hd.kind : Int) == 2) = decide (pi.hd.kind = 2) := by rw [Bool.eq_iff_iff, beq_iff_eq, decide_eq_true_eq]; omega
            have x0 : w6.cell? ⟨xb, 0, none⟩ = some (.int .i64 (pi.hd.kind : Int)) := hX6.cell 0
            by_cases hfk : fb = decide (pi.hd.kind = 2)
            · rw [if_pos hfk] at hu
              subst hu
              have hr := HG.out
              rw [if_neg fun q => q rfl] at hr
              dsimp only at hr
              have HG2 := Lib.hid hr
              have hun : UnOk (fun k => (w.heap.size ≤ k ∧ some k ≠ (Value.slice (some ⟨g1, off, none⟩) names.length cn).ownBlock ∧ some k ≠ (Value.slice ao lo co).ownBlock) ∨ (A k ∧ k < w.heap.size)) w6 ⟨n, pi.hd, .slice s1 pi.segs.length q1, pi.so, .slice s2 pi.need.length q2, .slice s3 pi.names.length q3, .slice s4 pi.syms.length q4, .slice s5 pi.rels.length q5, .slice s6 pi.bytes.length q6⟩ (n, pi) := ⟨rfl, him6⟩
              have hone3 : ∀ u ∈ encU ⟨n, pi.hd, .slice s1 pi.segs.length q1, pi.so, .slice s2 pi.need.length q2, .slice s3 pi.names.length q3, .slice s4 pi.syms.length q4, .slice s5 pi.rels.length q5, .slice s6 pi.bytes.length q6⟩, u.oneCell' = true := fun u hu => by
                have h1 := encU_one hun
                rw [List.all_toArray] at h1
                exact List.all_eq_true.1 h1 u hu
              have hpl : ps.length = i := by rw [hO6.un.1, hL.ni]
              have hen : encU ⟨n, pi.hd, .slice s1 pi.segs.length q1, pi.so, .slice s2 pi.need.length q2, .slice s3 pi.names.length q3, .slice s4 pi.syms.length q4, .slice s5 pi.rels.length q5, .slice s6 pi.bytes.length q6⟩ = [.string nb, .int .i64 (pi.hd.kind : Int), .int .u64 (pi.hd.entry : Int), .int .u64 (pi.hd.segs : Int), .int .i64 (pi.hd.count : Int), .slice s1 pi.segs.length q1, .string ⟨pi.so.toArray⟩, .slice s2 pi.need.length q2, .slice s3 pi.names.length q3, .slice s4 pi.syms.length q4, .slice s5 pi.rels.length q5, .slice s6 pi.bytes.length q6] := by
                rw [HNB.out]; rfl
              have hX7 : Blk w6 xb #[.int .i64 (pi.hd.kind : Int), .int .u64 (pi.hd.entry : Int), .int .u64 (pi.hd.segs : Int), .int .i64 (pi.hd.count : Int), .slice s1 pi.segs.length q1, .string ⟨pi.so.toArray⟩, .slice s2 pi.need.length q2, .slice s3 pi.names.length q3, .slice s4 pi.syms.length q4, .slice s5 pi.rels.length q5, .slice s6 pi.bytes.length q6] 70 := hX6
              have HUN := Lib.hid hun
              have HEN := Lib.hid hen
              have HON := Lib.hid hone3
              have hgn : g1 < w6.heap.size := (World.ownsRow.lt hO6.nm g1 rfl).2
              have c0' : w6.cell? ⟨g1, off + i, none⟩ = some (.string nb) := by
                obtain ⟨g1', off', cap', ev, _, _, _, _, hc⟩ := hO6.nm.fl.at (fun _ => rfl) hlt
                injection ev with e1 e2 e3
                injection e1 with e1
                injection e1 with e1 e4 e5
                subst e1 e4
                have c := hc 0 _ rfl
                rw [Nat.add_zero, Nat.mul_one, ← HN.out, ← HNB.out] at c
                exact c
              have hq : (!fb == decide (pi.hd.kind = 2)) = false := by rw [hfk]; cases decide (pi.hd.kind = 2) <;> rfl
              clear hr HG HU2 hun hen hone3 him6 hone hX6
              clear hfk
              go_upto_region 14 with fail
              refine wp_region_sig (fun W => W.cell? ⟨g1, off + i, none⟩ = some (.string nb) ∧ Blk W xb #[.int .i64 (pi.hd.kind : Int), .int .u64 (pi.hd.entry : Int), .int .u64 (pi.hd.segs : Int), .int .i64 (pi.hd.count : Int), .slice s1 pi.segs.length q1, .string ⟨pi.so.toArray⟩, .slice s2 pi.need.length q2, .slice s3 pi.names.length q3, .slice s4 pi.syms.length q4, .slice s5 pi.rels.length q5, .slice s6 pi.bytes.length q6] 70) (fun j => decide (j ≤ 99)) [(0, true), (1, true), (2, true), (3, true), (4, true), (5, true), (6, true), (7, false), (8, false), (9, false)] (by kernel_rfl) (by kernel_rfl) (by intro c a d v w h; cases d <;> exact h) ⟨c0', hX7.keep (Keep.refl No w6).drew fun h => h⟩ ?_
              apply sig_still (o := ⟨some 56, _, _, _, _, _⟩) rfl rfl
              · intro w' hS
                obtain ⟨q1, q2⟩ := hS
                first | (go_simp; done) | (go_simp; rfl) | rfl
              go_frame
              apply sig_still (o := ⟨some 57, _, _, _, _, _⟩) rfl rfl
              · intro w' hS
                obtain ⟨q1, q2⟩ := hS
                first | (go_simp; done) | (go_simp; rfl) | rfl
              go_frame
              apply sig_still (o := ⟨some 58, _, _, _, _, _⟩) rfl rfl
              · intro w' hS
                obtain ⟨q1, q2⟩ := hS
                first | (go_simp; done) | (go_simp; rfl) | rfl
              go_frame
              apply sig_still (o := ⟨some 59, _, _, _, _, _⟩) rfl rfl
              · intro w' hS
                obtain ⟨q1, q2⟩ := hS
                first | (go_simp; done) | (go_simp; rfl) | rfl
              go_frame
              apply sig_still (o := ⟨some 60, _, _, _, _, _⟩) rfl rfl
              · intro w' hS
                obtain ⟨q1, q2⟩ := hS
                first | (go_simp; done) | (go_simp; rfl) | rfl
              go_frame
              apply sig_still (o := ⟨some 61, _, _, _, _, _⟩) rfl rfl
              · intro w' hS
                exact run_ldo _ _ rfl xb 0 rfl (run_loadVar_row w' xb 70 70 _ _ _ hS.2 Tryz.underlying70 rfl (by kernel_rfl))
              go_frame
              apply sig_still (o := ⟨some 62, _, _, _, _, _⟩) rfl rfl
              · intro w' hS
                exact run_bldo (cells := #[.string nb, .int .i64 (pi.hd.kind : Int), .int .u64 (pi.hd.entry : Int), .int .u64 (pi.hd.segs : Int), .int .i64 (pi.hd.count : Int), .slice s1 pi.segs.length q1, .string ⟨pi.so.toArray⟩, .slice s2 pi.need.length q2, .slice s3 pi.names.length q3, .slice s4 pi.syms.length q4, .slice s5 pi.rels.length q5, .slice s6 pi.bytes.length q6]) _ _ rfl (by kernel_rfl)
              go_frame
              refine sig_eff (o := ⟨some 63, _, _, _, _, _⟩) rfl rfl (fun K hKe => ?_)
              go_wp2_with fail
              have hkd1 : Keep No w6 (w6.alloc (.cells #[.string nb, .int .i64 (pi.hd.kind : Int), .int .u64 (pi.hd.entry : Int), .int .u64 (pi.hd.segs : Int), .int .i64 (pi.hd.count : Int), .slice s1 pi.segs.length q1, .string ⟨pi.so.toArray⟩, .slice s2 pi.need.length q2, .slice s3 pi.names.length q3, .slice s4 pi.syms.length q4, .slice s5 pi.rels.length q5, .slice s6 pi.bytes.length q6] 74)).drew := ((Keep.refl No w6).alloc _).drew
              refine ⟨fun _ => ⟨(hkd1.cell (p := ⟨g1, off + i, none⟩) hgn fun h => h).trans c0', hX7.keep hkd1 fun h => h⟩, ?_⟩
              clear hkd1
              have hOd := hO6.no (Keep.refl No w6).drew
              have hXd := hX7.keep (Keep.refl No w6).drew fun h => h
              have hud := HUN.out.keep (Keep.refl No w6).drew fun _ _ _ h => h
              refine sig_eff (o := ⟨some 64, _, _, _, _, _⟩) rfl rfl (fun K hKe => ?_)
              refine wo_append _ _ _ _ rfl _ _ rfl rfl ?_
              refine rg_push2 (P := Tryz.prog) (w := w6.drew) (enc := encU) (x := ⟨n, pi.hd, .slice s1 pi.segs.length q1, pi.so, .slice s2 pi.need.length q2, .slice s3 pi.names.length q3, .slice s4 pi.syms.length q4, .slice s5 pi.rels.length q5, .slice s6 pi.bytes.length q6⟩) _ _ Tryz.underlying31 u15_info (by rfl) (by decide) (by rw [HEN.out]) (by rfl) HON.out hOd.ou (by omega) (by omega) hOd.kw.size ?_
              intro v7 w7 ho7 hk7 hn7
              have hO7 := hOd.unit (u := (n, pi)) ho7 hk7 hn7 hud
              have hX8 := hXd.keep hk7 fun e => hox e
              have hgd : g1 < w6.drew.heap.size := hgn
              have c08 := (hk7.cell (p := ⟨g1, off + i, none⟩) hgd fun e => hOd.sep g1 e.symm rfl).trans c0'
              obtain ⟨a7, n7, c7, rfl⟩ : ∃ a n c, v7 = .slice a n c := by
                obtain ⟨a, c, e, _⟩ := ho7.fl.shape
                exact ⟨_, _, _, e⟩
              refine hKe _ _ ⟨fun _ => ⟨c08, hX8⟩, ?_⟩
              refine sig_eff (o := ⟨some 7, _, _, _, _, _⟩) rfl rfl (fun K hKe => ?_)
              go_wp2_with fail
              refine ⟨fun _ => ⟨c08, hX8⟩, ?_⟩
              refine sig_nil ?_
              have hN7 : OzN names pi.need 0 names := ⟨Nat.zero_le _, h8, rfl⟩
              clear c08 hgd hk7 hn7 ho7 hXd hOd hud hX7 hO6 hKe c0' HON HEN HUN hox hgn x0 hkd hfst
              obtain ⟨nq, hnq1⟩ : ∃ q, q = pi.need.length := ⟨_, rfl⟩
              have HNQ := Lib.hid hnq1
              rw [← hnq1] at hnq hX8
              clear hnq1
              go_wp2_with fail
              go_loopw [6, 12] (fun vn jv wr => ∃ (j : Nat) (names' : List BS), jv = .int .i64 (j : Int) ∧ OzS A w wr vn (.slice a7 n7 c7) names' (ps ++ [⟨n, pi.hd, .slice s1 pi.segs.length q1, pi.so, .slice s2 pi.need.length q2, .slice s3 pi.names.length q3, .slice s4 pi.syms.length q4, .slice s5 pi.rels.length q5, .slice s6 pi.bytes.length q6⟩]) (out ++ [(n, pi)]) ∧ OzN names pi.need j names' ∧
                Blk wr xb #[.int .i64 (pi.hd.kind : Int), .int .u64 (pi.hd.entry : Int), .int .u64 (pi.hd.segs : Int), .int .i64 (pi.hd.count : Int), .slice s1 pi.segs.length q1, .string ⟨pi.so.toArray⟩, .slice s2 nq q2, .slice s3 pi.names.length q3, .slice s4 pi.syms.length q4, .slice s5 pi.rels.length q5, .slice s6 pi.bytes.length q6] 70 ∧ some xb ≠ vn.ownBlock) (fun _ jv _ => nq - (intOf jv).toNat)
              case atStart => exact ⟨0, names, rfl, hO7, hN7, hX8, hnx⟩
              case round =>
                clear hO7 hN7 hX8 hnx
                obtain ⟨j, names', rfl, hO, hN, hX, hnx⟩ := hrel
                generalize wr = wy at *
                obtain ⟨an2, cn2, en2, _, hcn2⟩ := hO.nm.fl.shape
                subst en2
                have h8n := hN.h8
                have hxl2 := hX.lt
                have x6 : wy.cell? ⟨xb, 6, none⟩ = some (.slice s2 nq q2) := hX.cell 6
                rcases Nat.lt_or_ge j nq with hjl | hjg
                · have hjn : j < pi.need.length := by rw [← HNQ.out]; exact hjl
                  have hjz : (j : Int) < (nq : Int) := by omega
                  have hlo : out.length = ps.length := by
                    have := hO.un.1
                    rw [List.length_append, List.length_append] at this
                    simp only [List.length_cons, List.length_nil] at this
                    omega
                  have hneed := (hO.un.2 ps.length _ (n, pi) (by rw [List.getElem?_append_right (Nat.le_refl _), Nat.sub_self]; rfl) (by rw [List.getElem?_append_right (by omega), hlo, Nat.sub_self]; rfl)).need
                  dsimp only at hneed
                  obtain ⟨g2, off2, cap2, ev2, _, _, _, _, hc⟩ := hneed.at (fun _ => rfl) hjn
                  injection ev2 with e1 e2 e3
                  have c0 := hc 0 _ rfl
                  rw [Nat.add_zero, Nat.mul_one] at c0
                  have hgo := hN.go
                  rw [List.drop_eq_getElem_cons hjn, addN_cons] at hgo
                  have hat := r15at_any (w := wy) (v := .slice an2 names'.length cn2) names' pi.need[j] hO.nm.fl
                  obtain ⟨x, hx⟩ : ∃ x, x = pi.need[j] := ⟨_, rfl⟩
                  rw [← hx] at c0 hgo hat
                  obtain ⟨xs, hxs⟩ : ∃ xs : ByteArray, xs = ⟨x.toArray⟩ := ⟨_, rfl⟩
                  rw [← hxs] at c0 hat
                  have HXS := Lib.hid hxs
                  have HGO := Lib.hid hgo
                  clear hgo hx hxs hc hneed hlo e2 e3
                  subst e1
                  by_cases hin : x ∈ names'
                  · obtain ⟨p, hp, hsx, _⟩ := sIdx_mem hin
                    have hsz : sIdxZ names' x = (p : Int) := by unfold sIdxZ; rw [hsx]
                    rw [hsz] at hat
                    have hgo := HGO.out
                    rw [if_pos hin] at hgo
                    have hN2 : OzN names pi.need (j + 1) names' := ⟨hjn, h8n, hgo⟩
                    clear hgo HGO hsx hsz hN
                    go_wp2_with fail
                    refine hat.mono ?_
                    clear hat
                    rintro e wq ⟨rfl, rfl⟩
                    go_wp2_with fail
                    go_roundw
                    case rel => exact ⟨j + 1, names', by go_num, hO, hN2, hX, hnx⟩
                    case measure => (simp [intOf]; try omega)
                  · have hsz : sIdxZ names' x = -1 := by
                      unfold sIdxZ
                      rw [sIdx_none (k := x) fun q hq e => hin (by rw [← e]; exact List.getElem_mem hq)]
                    rw [hsz] at hat
                    have hgo := HGO.out
                    rw [if_neg hin] at hgo
                    clear hsz
                    by_cases h88 : names'.length = 8
                    · rw [if_pos h88] at hgo
                      have hr := HG2.out
                      rw [← hgo] at hr
                      dsimp only at hr
                      subst hr
                      have g8 : (8 : Int) ≤ (names'.length : Int) := by omega
                      clear hgo HGO h88 HG2 hN
                      go_wp2_with fail
                      refine hat.mono ?_
                      clear hat
                      rintro e wq ⟨rfl, rfl⟩
                      go_wp2_with fail
                      go_ret2
                      exact ⟨_, [], rfl, Fl.nil, ⟨rfl, fun i p u hp => by simp at hp⟩, hO.kw⟩
                    · rw [if_neg h88] at hgo
                      have g8 : (names'.length : Int) < 8 := by omega
                      have hlt8 : names'.length < 8 := by omega
                      have hN2 : OzN names pi.need (j + 1) (names' ++ [x]) := ⟨hjn, by rw [List.length_append, List.length_singleton]; omega, hgo⟩
                      clear hgo HGO h88 hN
                      go_wp2_with fail
                      refine hat.mono ?_
                      clear hat
                      rintro e wq ⟨rfl, rfl⟩
                      go_wp2_with (at_builtin; refine wl_append rfl _ _ _ _ rfl _ _ rfl rfl ?_)
                      refine rg_push (P := Tryz.prog) (enc := encS) (x := x) _ _ Tryz.underlying37 str_info (by rfl) (by decide) (by rw [HXS.out]; rfl) (by rfl) (by intro u hu; rw [List.mem_singleton.1 hu]; rfl) hO.nm (by omega) (by decide) hO.kw.size ?_
                      intro v9 w9 ho9 hk9 hn9
                      have hO9 := hO.push ho9 hk9 hn9
                      have hX9 := hX.keep hk9 fun e => hnx e
                      have hnx9 : some xb ≠ v9.ownBlock := by
                        rcases hn9 with e | e
                        · rw [e]; exact hnx
                        · rw [e]
                          intro q
                          injection q with q
                          omega
                      obtain ⟨a9, n9, c9, rfl⟩ : ∃ a n c, v9 = .slice a n c := by
                        obtain ⟨a, c, e, _⟩ := ho9.fl.shape
                        exact ⟨_, _, _, e⟩
                      clear ho9 hk9 hn9 hO hX hnx x6 c0
                      go_wp2_with fail
                      go_roundw
                      case rel => exact ⟨j + 1, _, by go_num, hO9, hN2, hX9, hnx9⟩
                      case measure => (simp [intOf]; try omega)
                · obtain rfl : j = nq := by
                    have h1 := hN.hj
                    have h2 := HNQ.out
                    omega
                  have hgo := hN.go
                  rw [HNQ.out, List.drop_length] at hgo
                  have hgo2 : addN names pi.need = some names' := hgo.symm
                  have hr := HG2.out
                  rw [hgo2] at hr
                  dsimp only at hr
                  have hL9 : OzL fs res (i + 1) names' (out ++ [(n, pi)]) := by
                    refine ⟨by rw [List.length_append, hL.ni]; rfl, hr.symm, hL.wh.step (by rw [hL.ni, List.getElem?_eq_getElem hlt, HN.out]) hgo2⟩
                  have hi8 : i < 8 := by omega
                  clear hgo hgo2 hr hN hL
                  go_wp2_with fail
                  go_roundw
                  case rel => exact ⟨i + 1, names', _, out ++ [(n, pi)], by go_num, hO, hL9⟩
                  case measure => (simp [intOf]; try omega)
            · rw [if_neg hfk] at hu
              subst hu
              have hr := HG.out
              rw [if_pos (by decide)] at hr
              subst hr
              have hq : (!fb == decide (pi.hd.kind = 2)) = true := by
                revert hfk
                cases fb <;> cases decide (pi.hd.kind = 2) <;> simp
              clear HG HU2 hfk
              go_wp2_with fail
              go_ret2
              exact ⟨_, [], rfl, Fl.nil, ⟨rfl, fun i p u hp => by simp at hp⟩, hO6.kw⟩
          · have hu := HU2.out
            rw [if_pos h0] at hu
            subst hu
            have hr := HG.out
            rw [if_pos h0] at hr
            subst hr
            have gn : ((pe : Int) != 0) = true := by rw [bne_iff_ne]; omega
            clear HG HU2
            go_wp2_with fail
            go_ret2
            exact ⟨_, [], rfl, Fl.nil, ⟨rfl, fun i p u hp => by simp at hp⟩, hO6.kw⟩
      · obtain rfl : i = names.length := by omega
        have hle : names.length ≤ out.length := by rw [hL.ni]; exact Nat.le_refl _
        have hres : res = if cycB out then (30, []) else (0, out) := by
          rw [← hL.go]
          have hno : names[out.length]? = none := by rw [hL.ni]; exact List.getElem?_eq_none (Nat.le_refl _)
          cases 8 - names.length with
          | zero => rfl
          | succ k =>
            conv => lhs; unfold orderGo
            rw [hno]
        have HRES := Lib.hid (And.intro hO (And.intro hL.wh (And.intro hle hres)))
        clear hres hle hL hO
        go_wp2_with fail
        go_meet
        exact ⟨names, ps, out, HRES.out⟩
end
end Go.Proofs.YtbnahidopemkiaaGreat
