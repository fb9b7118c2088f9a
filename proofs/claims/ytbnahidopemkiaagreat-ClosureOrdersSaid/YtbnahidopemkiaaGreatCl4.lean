/- closure.Order. No condition. -/
import Derived.Test.YtbnahidopemkiaaGreatRdF
import Derived.Test.YtbnahidopemkiaaGreatMapR
set_option linter.unusedVariables false
set_option linter.unusedSimpArgs false
namespace Go.Dm
open Go Go.RowKit
section
variable {α : Type} {A : Nat → Prop} {w : World} {k : Nat} {enc : α → List Value} {v : Value} {l : List α}
variable {base : Nat} {e : TypeId}
variable {P : Program}
theorem rg_push2 (z : Value) (bytes : Nat) {t ty : TypeId} (ht : P.underlying t = some (.slice e)) (hi : (P.info? e).map (fun i => (i.zero, i.size, i.bytes)) = some (some z, k, bytes)) (hzs : z.cells.size = k) (hk0 : 0 < k)
    {x : α} {cs : Array Value} (hcs : cs.toList = enc x) (hx : (enc x).length = k) (hone : ∀ u ∈ enc x, u.oneCell' = true) (ho : FlO w base e k enc v l) (hlen : l.length + 1 ≤ 1099511627776) (hbb : (l.length + 1) * bytes ≤ 140737488355328) (hbase : base ≤ w.heap.size) {K : Value → World → Prop}
    (h : ∀ v' w', FlO w' base e k enc v' (l ++ [x]) → Keep (fun j => some j = v.ownBlock) w w' → (v'.ownBlock = v.ownBlock ∨ v'.ownBlock = some (w.heap.size + 1)) → K v' w') : AppendGoal P t t ty v (.slice (some ⟨w.heap.size, 0, none⟩) 1 1) (w.alloc (.cells cs e)) K := by
  have hs : Sl (fun j => j = w.heap.size) (w.alloc (.cells cs e)) k (.slice (some ⟨w.heap.size, 0, none⟩) 1 1) 1 (enc x) := by
    rw [← hcs]
    exact Sl.new w cs e (by rw [← Array.length_toList, hcs, hx, Nat.one_mul]) (by unfold maxLen; omega)
  refine rg_append base e z k bytes ht hi hzs hk0 (ho.alloc _) hs hone (by unfold maxLen; omega) hbb (by rw [World.size_alloc]; omega) ?_
  intro v' w' ho' hk' _ hn
  refine h v' w' ?_ (((Keep.refl _ w).alloc _).trans' hk') ?_
  · unfold FlO
    rw [List.length_append, List.flatMap_append]
    simpa using ho'
  · rw [World.size_alloc] at hn; exact hn
end
end Go.Dm
namespace Go.Proofs.YtbnahidopemkiaaGreat
open Go.RowKit Go.Dm Go.Dm.Oc Go.Dm.Ld Go.Maps Go.WideMaps Go.WideElems
structure OrdL (fs : Fs) (res : Nat × List (BS × Im)) (i : Nat) (names : List BS) (out : List (BS × Im)) : Prop where
  ni : out.length = i
  hi : i ≤ names.length
  h8 : names.length ≤ 8
  go : orderGo fs (8 - i) names out = res
  onm : out.map (·.1) = names.take i
  nd : names.Nodup
  nl : ∀ n ∈ names, n.length ≤ 9223372036854775807
  ol : ∀ u ∈ out, ∀ n ∈ u.2.need, n.length ≤ 65536
structure NeedL (names need : List BS) (j : Nat) (names' : List BS) : Prop where
  hj : j ≤ need.length
  h8 : names'.length ≤ 8
  go : addN names' (need.drop j) = addN names need
  nd : names'.Nodup
  nl : ∀ n ∈ names', n.length ≤ 9223372036854775807
  pre : ∃ t, names' = names ++ t
theorem addN_cons (names : List BS) (n : BS) (r : List BS) : addN names (n :: r) = if n ∈ names then addN names r else if names.length = 8 then none else addN (names ++ [n]) r := rfl
theorem unitM_need (n : BS) (fs : Fs) (fb : Bool) : ∀ x ∈ (unitM n fs fb).2.need, x.length ≤ 65536 := by
  have h0 : ∀ n ∈ im0.need, n.length ≤ 65536 := fun n hn => by cases hn
  unfold unitM
  repeat' split
  all_goals first
    | exact h0
    | exact parseM_need _
theorem unit_info : (Tryz.prog.info? 62).map (fun i => (i.zero, i.size, i.bytes)) = some (some (.agg #[.string ⟨#[]⟩, .int .i64 0, .int .u64 0, .int .u64 0, .int .i64 0, .slice none 0 0, .string ⟨#[]⟩, .slice none 0 0, .slice none 0 0, .slice none 0 0, .slice none 0 0, .slice none 0 0]), 12, 208) := by kernel_rfl
theorem zBoolC (w : World) : (zeroValue 4).run Tryz.prog w = .ok (.bool false) w := by kernel_rfl
section
variable {A : Nat → Prop} {w : World} {v : Value} {fs : Fs}
set_option maxRecDepth 100000 in
set_option maxHeartbeats 4000000 in
theorem clorder_any (root : BS) (hr : root.length ≤ 9223372036854775807) (hf : FiR A w v fs) (hfl : ∀ f ∈ fs, f.2.length ≤ 1099511627776) :
    Calls Tryz.prog 7 #[.string ⟨root.toArray⟩, v] w fun e w' => ∃ vo ps, e = .returned (.tuple #[vo, .int .i64 ((orderM root fs).1 : Nat)]) ∧ Fl (fun k => w.heap.size ≤ k) w' 12 encU vo ps ∧ UsOk (fun k => w.heap.size ≤ k) w' ps (orderM root fs).2 ∧ Keep No w w' := by
  have HF := Lib.hid hf
  have HFL := Lib.hid hfl
  obtain ⟨af, nf, cf, rfl⟩ : ∃ a n c, v = .slice a n c := by
    obtain ⟨ps, _, h, _⟩ := hf
    obtain ⟨a, c, e, _⟩ := h.shape
    exact ⟨_, _, _, e⟩
  clear hf hfl
  have hmm := @run_makeMap Tryz.prog
  have HRK := Lib.hid (kOfC (s := root) (by unfold maxLen; omega))
  have HSP := Lib.hid (SL_push (names := []) (n := root) (by unfold maxLen; omega) (by simp))
  have HRL := Lib.hid hr
  clear hr
  obtain ⟨res, hres⟩ : ∃ res, res = orderM root fs := ⟨_, rfl⟩
  rw [← hres]
  have HR := Lib.hid hres
  clear hres
  obtain ⟨bs, hbs⟩ : ∃ bs : ByteArray, bs = ⟨root.toArray⟩ := ⟨_, rfl⟩
  rw [← hbs]
  have HBS := Lib.hid hbs
  clear hbs
  go_enter Tryz.func7, Tryz.ntmps7
  go_wp2_with (with_reducible refine wl_insert rfl _ _ _ _ rfl _ _ _ rfl rfl rfl ?_)
  have hkW : Keep No w (w.alloc (.cells #[.string bs] 9)) := (Keep.refl _ _).alloc _
  have hBW : Blk (w.alloc (.cells #[.string bs] 9)) w.heap.size #[.string bs] 9 := Blk.new _ _ _
  have hzW : (w.alloc (.cells #[.string bs] 9)).heap.size = w.heap.size + 1 := World.size_alloc _ _
  generalize w.alloc (.cells #[.string bs] 9) = W at *
  have hM0 := MapL.made Tryz.prog 9 W
  have hkM : Keep No W (W.alloc (.map #[] 0)) := (Keep.refl _ _).alloc _
  have hzM : (W.alloc (.map #[] 0)).heap.size = W.heap.size + 1 := World.size_alloc _ _
  have hN0 : FlO (W.alloc (.map #[] 0)) w.heap.size 9 1 encS (.slice (some ⟨w.heap.size, 0, none⟩) 1 1) [root] := by
    have h := own_blk (hBW.keep hkM fun h => h) (Nat.le_refl w.heap.size) (n := 1) (size := 1) rfl (by unfold maxLen; omega)
    rw [HBS.out] at h
    exact h
  have hkw1 := hkW.trans' hkM
  generalize W.alloc (.map #[] 0) = w1 at *
  rw [hzW] at hM0 hzM
  have hkey : keyOf Tryz.prog 9 (.string bs) = some (.string root) := by rw [HBS.out]; exact HRK.out
  refine rg_store hM0 kStrC Tryz.underlying63 (by unfold maxLen; decide) hkey ?_
  intro w2 hM2 hk2 hz2
  have hO : OrdS w w2 (w.heap.size + 1) (.slice (some ⟨w.heap.size, 0, none⟩) 1 1) (.slice none 0 0) [root] [root] [] [] :=
    ⟨hN0.same fun g hg => hk2.block g (World.ownsRow.lt hN0 g hg).2 fun e => by
        have e1 : some w.heap.size = some g := hg
        have e2 : g = w.heap.size + 1 := e
        cases e1
        omega,
      FlO.nil, ⟨rfl, fun i p u h => by simp at h⟩, fun g hg => (by cases hg), by have h := HSP.out; rw [show ([] ++ [root] : List BS) = [root] from rfl] at h; rw [← h]; exact hM2, Nat.le_succ _,
      hkw1.trans hk2 fun j hj e => by have e2 : j = w.heap.size + 1 := e; omega⟩
  have hL : OrdL fs res 0 [root] [] := ⟨rfl, Nat.zero_le _, by show 1 ≤ 8; decide, HR.out.symm, rfl, by simp, fun n hn => by rw [List.mem_singleton.1 hn]; exact HRL.out, fun u hu => by cases hu⟩
  clear hM0 hkM hN0 hkw1 hM2 hk2 hz2 hzM hkW hBW hzW hkey
  have hmlt : w.heap.size + 1 < w2.heap.size := hO.mp.lt
  clear hmlt
  obtain ⟨m, hm⟩ : ∃ m, m = w.heap.size + 1 := ⟨_, rfl⟩
  rw [← hm] at hO ⊢
  have HM := Lib.hid hm
  clear hm
  go_wp2_with (with_reducible refine wl_insert rfl _ _ _ _ rfl _ _ _ rfl rfl rfl ?_)
  go_loopw [6, 8, 9, 10, 11, 13] (fun vn vo iv _ _ _ wr => ∃ (i : Nat) (names : List BS) (ps : List UC) (out : List (BS × Im)), iv = .int .i64 i ∧ OrdS w wr m vn vo names names ps out ∧ OrdL fs res i names out) (fun _ _ iv _ _ _ _ => 8 - (intOf iv).toNat)
  case atStart => exact ⟨0, _, _, _, rfl, hO, hL⟩
  case round =>
    obtain ⟨i, names, ps, out, rfl, hO, hL⟩ := hrel
    generalize wr = wz at *
    obtain ⟨an, cn, en, hcn, hcm⟩ := hO.nm.fl.shape
    subst en
    have h8 := hL.h8
    rcases Nat.lt_or_ge i names.length with hlt | hge
    · obtain ⟨g1, off, cap, ev, _, _, _, _, hc⟩ := hO.nm.fl.at encS_len hlt
      cases ev
      have c0 := hc 0 _ rfl
      rw [Nat.add_zero, Nat.mul_one] at c0
      clear hc
      have hiz : (i : Int) < (names.length : Int) := by omega
      have hn65 := hL.nl _ (List.getElem_mem hlt)
      have hpar := clparse_any (w := wz) (v := .slice af nf cf) names[i] (decide (out.length = 0)) (HF.out.no hO.kw) HFL.out
      have hum : ∀ n ∈ (unitM names[i] fs (decide (out.length = 0))).2.need, n.length ≤ 65536 := unitM_need _ _ _
      have hgo : res = if (unitM names[i] fs (decide (out.length = 0))).1 ≠ 0 then ((unitM names[i] fs (decide (out.length = 0))).1, []) else
          match addN names (unitM names[i] fs (decide (out.length = 0))).2.need with
          | none => (13, [])
          | some names' => orderGo fs (8 - (i + 1)) names' (out ++ [(names[i], (unitM names[i] fs (decide (out.length = 0))).2)]) := by
        obtain ⟨k, hk⟩ : ∃ k, 8 - i = k + 1 := ⟨7 - i, by omega⟩
        have h := hL.go
        rw [hk] at h
        rw [← h, show 8 - (i + 1) = k from by omega]
        have hni : names[out.length]? = some names[i] := by rw [hL.ni]; exact List.getElem?_eq_getElem hlt
        conv => lhs; unfold orderGo
        rw [hni]
        rfl
      have hfst : ((i : Int) == 0) = decide (out.length = 0) := by
        rw [Bool.eq_iff_iff, beq_iff_eq, decide_eq_true_eq, hL.ni]
        omega
      generalize decide (out.length = 0) = fb at *
      generalize unitM names[i] fs fb = um at *
      obtain ⟨ue, ui⟩ := um
      dsimp only at hpar hgo hum
      obtain ⟨n, hn⟩ : ∃ n, n = names[i] := ⟨_, rfl⟩
      rw [← hn] at hgo hpar c0 hn65
      have HN := Lib.hid hn
      clear hn
      obtain ⟨nb, hnb⟩ : ∃ nb : ByteArray, nb = ⟨n.toArray⟩ := ⟨_, rfl⟩
      rw [← hnb] at hpar c0
      have HNB := Lib.hid hnb
      clear hnb
      have HG := Lib.hid hgo
      have HU := Lib.hid hum
      clear hgo hum
      go_wp2_with fail
      refine hpar.mono ?_
      rintro e w4 ⟨nm, cs, rfl, him, hk4, hnm⟩
      have him4 := him
      obtain ⟨vs, vn, vm, vy, vr, vb, rfl, -⟩ := him
      have hone := him4.one
      have hmw : m < wz.heap.size := hO.mp.lt
      have hnw : ∀ k, some k = (Value.slice (some ⟨g1, off, none⟩) names.length cn).ownBlock → k < wz.heap.size := fun k hk => (World.ownsRow.lt hO.nm k hk.symm).2
      have how : ∀ k, some k = u8.ownBlock → k < wz.heap.size := fun k hk => (World.ownsRow.lt hO.ou k hk.symm).2
      have hwz := hO.kw.size
      have hO4 := hO.no hk4
      have hAll : ∀ k, k < w4.heap.size → wz.heap.size ≤ k → w.heap.size ≤ k ∧ some k ≠ (Value.slice (some ⟨g1, off, none⟩) names.length cn).ownBlock ∧ some k ≠ u8.ownBlock ∧ k ≠ m := fun k _ hk =>
        ⟨by omega, fun e => absurd (hnw k e) (by omega), fun e => absurd (how k e) (by omega), by omega⟩
      have him4 := him4.mono hAll
      clear hpar hO hk4 hmw hnw how hwz hAll c0
      go_wp2_with (with_reducible refine wl_stAgg rfl _ _ _ rfl _ _ rfl rfl ?_)
      have hkW5 : Keep No w4 (w4.alloc (.cells #[.string ⟨#[]⟩, .int .i64 0, .int .u64 0, .int .u64 0, .int .i64 0, .slice none 0 0, .string ⟨#[]⟩, .slice none 0 0, .slice none 0 0, .slice none 0 0, .slice none 0 0, .slice none 0 0] 62)) := (Keep.refl _ _).alloc _
      have hBW5 : Blk (w4.alloc (.cells #[.string ⟨#[]⟩, .int .i64 0, .int .u64 0, .int .u64 0, .int .i64 0, .slice none 0 0, .string ⟨#[]⟩, .slice none 0 0, .slice none 0 0, .slice none 0 0, .slice none 0 0, .slice none 0 0] 62)) w4.heap.size #[.string ⟨#[]⟩, .int .i64 0, .int .u64 0, .int .u64 0, .int .i64 0, .slice none 0 0, .string ⟨#[]⟩, .slice none 0 0, .slice none 0 0, .slice none 0 0, .slice none 0 0, .slice none 0 0] 62 := Blk.new _ _ _
      have hzW5 : (w4.alloc (.cells #[.string ⟨#[]⟩, .int .i64 0, .int .u64 0, .int .u64 0, .int .i64 0, .slice none 0 0, .string ⟨#[]⟩, .slice none 0 0, .slice none 0 0, .slice none 0 0, .slice none 0 0, .slice none 0 0] 62)).heap.size = w4.heap.size + 1 := World.size_alloc _ _
      generalize w4.alloc (.cells #[.string ⟨#[]⟩, .int .i64 0, .int .u64 0, .int .u64 0, .int .i64 0, .slice none 0 0, .string ⟨#[]⟩, .slice none 0 0, .slice none 0 0, .slice none 0 0, .slice none 0 0, .slice none 0 0] 62) = W5 at *
      refine rg_stAgg hBW5 (by kernel_rfl) (by rfl) (by
        rw [List.all_toArray]
        refine List.all_eq_true.2 fun u hu => ?_
        rcases List.mem_cons.1 hu with rfl | hu
        · rfl
        · exact hone u hu) ?_
      intro w6 hB6 hk6 hz6
      have hk46 : Keep No w4 w6 := hkW5.trans hk6 fun j hj e => by have e2 : j = w4.heap.size := e; omega
      have hO6 := hO4.no hk46
      have him6 := him4.no hk46
      have hm4 : m < w4.heap.size := hO4.mp.lt
      have hn4 : ∀ k, some k = (Value.slice (some ⟨g1, off, none⟩) names.length cn).ownBlock → k < w4.heap.size := fun k hk => (World.ownsRow.lt hO4.nm k hk.symm).2
      have ho4 : ∀ k, some k = u8.ownBlock → k < w4.heap.size := fun k hk => (World.ownsRow.lt hO4.ou k hk.symm).2
      clear hO4 him4 hBW5 hkW5 hk6 hz6 hzW5 hk46
      by_cases h0 : ue = 0
      · subst h0
        have hnm2 := hnm rfl
        subst hnm2
        obtain ⟨p, hp⟩ : ∃ p : UC, p = ⟨n, ui.hd, vs, ui.so, vn, vm, vy, vr, vb⟩ := ⟨_, rfl⟩
        have hcs : (Value.string nm :: imC ui.hd vs ui.so vn vm vy vr vb).toArray = (encU p).toArray := by
          rw [hp, HNB.out]; rfl
        have hun : UnOk (fun k => w.heap.size ≤ k ∧ some k ≠ (Value.slice (some ⟨g1, off, none⟩) names.length cn).ownBlock ∧ some k ≠ u8.ownBlock ∧ k ≠ m) w6 p (n, ui) := by
          rw [hp]; exact ⟨rfl, him6⟩
        have hvn : some vn = some p.vn := by rw [hp]
        have hone2 := encU_one hun
        rw [← hcs] at hone2
        have HCS := Lib.hid hcs
        have HVN := Lib.hid hvn
        clear hcs him6 hone hnm hvn hp
        unfold imC at hB6 hone2
        have hexp : (Value.string nm :: imC ui.hd vs ui.so vn vm vy vr vb).toArray = (encU p).toArray := HCS.out
        unfold imC at hexp
        have HCS2 := Lib.hid hexp
        clear hexp HCS
        have hnl : ui.need.length ≤ ui.need.length := Nat.le_refl _
        have hneed : ∃ a c, vn = .slice a ui.need.length c ∧ ui.need.length ≤ 9223372036854775807 := by
          obtain ⟨_, _, _, _, _, _, e, _, h2, _⟩ := hun.2
          have e2 := congrArg (fun l : List Value => l[6]?) e
          have e3 : some p.vn = some _ := e2
          rw [← HVN.out] at e3
          cases e3
          obtain ⟨a, c, e, h3, h4⟩ := h2.shape
          have h3 : ui.need.length ≤ c := h3
          exact ⟨a, c, e, by unfold maxLen at h4; omega⟩
        obtain ⟨aq, cq, rfl, hnqb⟩ := hneed
        clear hnl
        obtain ⟨im, him⟩ : ∃ im, im = ui := ⟨_, rfl⟩
        have HIM := Lib.hid him
        rw [← him] at HG HU hun
        clear him
        generalize (ui.hd.kind : Int) = k0 at *
        generalize (ui.hd.entry : Int) = k1 at *
        generalize (ui.hd.segs : Int) = k2 at *
        generalize (ui.hd.count : Int) = k3 at *
        generalize (⟨ui.so.toArray⟩ : ByteArray) = bso at *
        obtain ⟨nq, hnq⟩ : ∃ nq, nq = ui.need.length := ⟨_, rfl⟩
        rw [← hnq] at hB6 HCS2 HVN hone2 hnqb
        have HNQ := Lib.hid hnq
        clear hnq
        have c7 := hB6.cell 7
        have hB6 : Blk w6 w4.heap.size #[.string nm, .int .i64 k0, .int .u64 k1, .int .u64 k2, .int .i64 k3, vs, .string bso, .slice aq nq cq, vm, vy, vr, vb] 62 := hB6
        go_wp2_with (first | (with_reducible refine wl_ld rfl _ 62 rfl _ rfl ?_) | (at_builtin; refine wl_append rfl _ _ _ _ rfl _ _ rfl rfl ?_))
        refine rg_ld hB6 Tryz.underlying62 rfl (by kernel_rfl) ?_
        go_wp2_with (first | (with_reducible refine wl_ld rfl _ 62 rfl _ rfl ?_) | (at_builtin; refine wl_append rfl _ _ _ _ rfl _ _ rfl rfl ?_))
        have hone3 : ∀ u ∈ encU p, u.oneCell' = true := fun u hu => by
          have h1 := encU_one hun
          rw [List.all_toArray] at h1
          exact List.all_eq_true.1 h1 u hu
        have hpl : ps.length = i := by rw [hO6.un.1, hL.ni]
        refine rg_push2 (P := Tryz.prog) (enc := encU) (x := p) _ _ Tryz.underlying27 unit_info (by rfl) (by decide) (by rw [HCS2.out]) (by rfl) hone3 hO6.ou (by omega) (by omega) hO6.kw.size ?_
        intro v7 w7 ho7 hk7 hn7
        have hO7 := hO6.unit (u := (n, im)) ho7 hk7 hn7 hun
        have hB7 := hB6.keep hk7 fun e => Nat.lt_irrefl _ (ho4 _ e)
        have c7 := hB7.cell 7
        have hpl2 : ps.length + 1 = (ps ++ [p]).length := by rw [List.length_append]; rfl
        have hN7 : NeedL names im.need 0 names := ⟨Nat.zero_le _, hL.h8, rfl, hL.nd, hL.nl, [], by rw [List.append_nil]⟩
        have hiL := hL.h8
        clear hB6 hO6 hk7 hn7 hun hone2 hone3 ho4 hn4 hm4 ho7 hpl hpl2
        go_wp2_with (first | (with_reducible refine wl_ld rfl _ 62 rfl _ rfl ?_) | (at_builtin; refine wl_append rfl _ _ _ _ rfl _ _ rfl rfl ?_) | (at_lookup; refine wl_lookup rfl _ _ _ _ rfl _ _ rfl rfl ?_) | (at_mapUpdate; refine wl_mapUpdate rfl _ _ _ _ rfl _ _ _ rfl rfl rfl ?_))
        go_loopw [6, 13, 47] (fun vn _ jv wr => ∃ (j : Nat) (names' : List BS), jv = .int .i64 j ∧ OrdS w wr m vn v7 names' names' (ps ++ [p]) (out ++ [(n, im)]) ∧ NeedL names im.need j names') (fun _ _ jv _ => nq - (intOf jv).toNat)
        case atStart => exact ⟨0, names, rfl, hO7, hN7⟩
        case round =>
          obtain ⟨j, names', rfl, hO, hN⟩ := hrel
          clear hO7 hB7 c7 hN7
          generalize wr = wy at *
          obtain ⟨an2, cn2, en2, _, _⟩ := hO.nm.fl.shape
          subst en2
          have h8n := hN.h8
          rcases Nat.lt_or_ge j nq with hjl | hjg
          · have hjn : j < im.need.length := by rw [HIM.out, ← HNQ.out]; exact hjl
            have hlo : out.length = ps.length := by
              have := hO.un.1
              rw [List.length_append, List.length_append] at this
              simp only [List.length_cons, List.length_nil] at this
              omega
            have hup := hO.un.2 ps.length p (n, im) (by rw [List.getElem?_append_right (Nat.le_refl _)]; simp) (by rw [List.getElem?_append_right (by omega), hlo]; simp)
            have hneed : Fl (fun k => w.heap.size ≤ k ∧ some k ≠ (Value.slice an2 names'.length cn2).ownBlock ∧ some k ≠ v7.ownBlock ∧ k ≠ m) wy 1 encS (.slice aq nq cq) im.need := by
              obtain ⟨_, _, _, _, _, _, e, _, h2, _⟩ := hup.2
              have e2 := congrArg (fun l : List Value => l[6]?) e
              have e3 : some p.vn = some _ := e2
              rw [← HVN.out] at e3
              cases e3
              exact h2
            obtain ⟨g2, off2, cap2, ev2, _, _, _, _, hc⟩ := hneed.at encS_len hjn
            have ea : aq = some ⟨g2, off2, none⟩ := by injection ev2
            have c0 := hc 0 _ rfl
            rw [Nat.add_zero, Nat.mul_one] at c0
            have hjz : (j : Int) < (nq : Int) := by omega
            have hx65 := HU.out _ (List.getElem_mem hjn)
            have hxk : keyOf Tryz.prog 9 (.string ⟨im.need[j].toArray⟩) = some (.string im.need[j]) := kOfC (by unfold maxLen; omega)
            have hfind := findL_SL (names := names') (n := im.need[j]) (by unfold maxLen; omega)
            have hpush : im.need[j] ∉ names' → (.string im.need[j], .bool true) :: eraseL (SL names') (.string im.need[j]) = SL (names' ++ [im.need[j]]) := fun h => SL_push (names := names') (n := im.need[j]) (by unfold maxLen; omega) h
            have hdrop : im.need.drop j = im.need[j] :: im.need.drop (j + 1) := List.drop_eq_getElem_cons hjn
            have hgo := hN.go
            rw [hdrop] at hgo
            rw [addN_cons] at hgo
            have HGO := Lib.hid hgo
            have HFD := Lib.hid hfind
            have HPU := Lib.hid hpush
            have HXK := Lib.hid hxk
            clear hgo hfind hpush hxk hdrop hc hup hneed ev2 hlo
            obtain ⟨x, hx⟩ : ∃ x, x = im.need[j] := ⟨_, rfl⟩
            rw [← hx] at c0 HGO HFD HPU HXK hx65
            clear hx
            obtain ⟨xb, hxb⟩ : ∃ xb : ByteArray, xb = ⟨x.toArray⟩ := ⟨_, rfl⟩
            rw [← hxb] at c0 HXK
            have HXB := Lib.hid hxb
            clear hxb
            subst ea
            go_wp2_with (first | (with_reducible refine wl_ld rfl _ 62 rfl _ rfl ?_) | (at_builtin; refine wl_append rfl _ _ _ _ rfl _ _ rfl rfl ?_) | (at_lookup; refine wl_lookup rfl _ _ _ _ rfl _ _ rfl rfl ?_) | (at_mapUpdate; refine wl_mapUpdate rfl _ _ _ _ rfl _ _ _ rfl rfl rfl ?_))
            refine rg_lookup hO.mp kStrC Tryz.underlying63 (zBoolC _) HXK.out ?_
            rw [HFD.out]
            by_cases hin : x ∈ names'
            · rw [List.contains_iff_mem.2 hin]
              have hgo := HGO.out
              rw [if_pos hin] at hgo
              have HGO2 := Lib.hid hgo
              have HIN := Lib.hid hin
              clear hgo HGO hin
              go_wp2_with (first | (with_reducible refine wl_ld rfl _ 62 rfl _ rfl ?_) | (at_builtin; refine wl_append rfl _ _ _ _ rfl _ _ rfl rfl ?_) | (at_lookup; refine wl_lookup rfl _ _ _ _ rfl _ _ rfl rfl ?_) | (at_mapUpdate; refine wl_mapUpdate rfl _ _ _ _ rfl _ _ _ rfl rfl rfl ?_))
              go_roundw
              case rel => exact ⟨j + 1, names', by go_num, hO, ⟨hjn, hN.h8, HGO2.out, hN.nd, hN.nl, hN.pre⟩⟩
              case measure => simp [intOf]; omega
            · have hcf : names'.contains x = false := by rw [Bool.eq_false_iff]; exact fun h => hin (List.contains_iff_mem.1 h)
              rw [hcf]
              have hgo := HGO.out
              rw [if_neg hin] at hgo
              have HIN := Lib.hid hin
              clear hcf hin
              by_cases h88 : names'.length = 8
              · rw [if_pos h88] at hgo
                have hres := HG.out
                rw [if_neg (fun h => h rfl), ← hgo] at hres
                dsimp only at hres
                subst hres
                have hz : UsOk (fun k => w.heap.size ≤ k) wy [] [] := ⟨rfl, fun i p u h => by simp at h⟩
                have h88i : ((names'.length : Int) == 8) = true := by rw [h88]; rfl
                clear hgo HGO HG HR h88
                go_wp2_with (first | (with_reducible refine wl_ld rfl _ 62 rfl _ rfl ?_) | (at_builtin; refine wl_append rfl _ _ _ _ rfl _ _ rfl rfl ?_) | (at_lookup; refine wl_lookup rfl _ _ _ _ rfl _ _ rfl rfl ?_) | (at_mapUpdate; refine wl_mapUpdate rfl _ _ _ _ rfl _ _ _ rfl rfl rfl ?_))
                go_ret2
                refine ⟨.slice none 0 0, ?_, [], Fl.nil, hz, hO.kw⟩
                rfl
              · rw [if_neg h88] at hgo
                have h88i : ((names'.length : Int) == 8) = false := by rw [beq_eq_false_iff_ne]; omega
                have HGO2 := Lib.hid hgo
                have hlt8 : names'.length < 8 := by omega
                clear hgo HGO h88
                go_wp2_with (first | (with_reducible refine wl_ld rfl _ 62 rfl _ rfl ?_) | (at_builtin; refine wl_append rfl _ _ _ _ rfl _ _ rfl rfl ?_) | (at_lookup; refine wl_lookup rfl _ _ _ _ rfl _ _ rfl rfl ?_) | (at_mapUpdate; refine wl_mapUpdate rfl _ _ _ _ rfl _ _ _ rfl rfl rfl ?_))
                refine rg_store hO.mp kStrC Tryz.underlying63 (by unfold SL; rw [List.length_map, List.length_reverse]; unfold maxLen; omega) HXK.out ?_
                intro w8 hM8 hk8 hz8
                rw [HPU.out HIN.out] at hM8
                have hO8 := hO.put hk8 hM8
                clear hO hk8 hM8 hz8 c0
                go_wp2_with (first | (with_reducible refine wl_ld rfl _ 62 rfl _ rfl ?_) | (at_builtin; refine wl_append rfl _ _ _ _ rfl _ _ rfl rfl ?_) | (at_lookup; refine wl_lookup rfl _ _ _ _ rfl _ _ rfl rfl ?_) | (at_mapUpdate; refine wl_mapUpdate rfl _ _ _ _ rfl _ _ _ rfl rfl rfl ?_))
                refine rg_push (P := Tryz.prog) (enc := encS) (x := x) _ _ Tryz.underlying37 str_info (by rfl) (by decide) (by rw [HXB.out]; rfl) (by rfl) (by intro u hu; rw [List.mem_singleton.1 hu]; rfl) hO8.nm (by omega) (by decide) hO8.kw.size ?_
                intro v9 w9 ho9 hk9 hn9
                have hO9 := hO8.push ho9 hk9 hn9
                have hlen9 : (names' ++ [x]).length ≤ 8 := by rw [List.length_append]; simp only [List.length_cons, List.length_nil]; omega
                have hnd9 : (names' ++ [x]).Nodup := by
                  rw [List.nodup_append]
                  refine ⟨hN.nd, by simp, fun a ha b hb e => ?_⟩
                  rw [List.mem_singleton.1 hb] at e
                  exact HIN.out (e ▸ ha)
                have hnl9 : ∀ n ∈ names' ++ [x], n.length ≤ 9223372036854775807 := fun n hn => by
                  rcases List.mem_append.1 hn with h | h
                  · exact hN.nl n h
                  · rw [List.mem_singleton.1 h]; exact Nat.le_trans hx65 (by decide)
                have hpre9 : ∃ t, names' ++ [x] = names ++ t := by
                  obtain ⟨t, ht⟩ := hN.pre
                  exact ⟨t ++ [x], by rw [ht, List.append_assoc]⟩
                have hN9 : NeedL names im.need (j + 1) (names' ++ [x]) := ⟨hjn, hlen9, HGO2.out, hnd9, hnl9, hpre9⟩
                clear hO8 hlen9 hnd9 hnl9 hpre9 hk9 hn9 hN
                obtain ⟨a9, n9, c9, rfl⟩ : ∃ a n c, v9 = .slice a n c := by
                  obtain ⟨a, c, e, _⟩ := ho9.fl.shape
                  exact ⟨_, _, _, e⟩
                clear ho9
                go_wp2_with (first | (with_reducible refine wl_ld rfl _ 62 rfl _ rfl ?_) | (at_builtin; refine wl_append rfl _ _ _ _ rfl _ _ rfl rfl ?_) | (at_lookup; refine wl_lookup rfl _ _ _ _ rfl _ _ rfl rfl ?_) | (at_mapUpdate; refine wl_mapUpdate rfl _ _ _ _ rfl _ _ _ rfl rfl rfl ?_))
                go_roundw
                case rel => exact ⟨j + 1, _, by go_num, hO9, hN9⟩
                case measure => simp [intOf]; omega
          · obtain rfl : j = nq := by
              have h1 := hN.hj
              have h2 : nq = im.need.length := by rw [HNQ.out, HIM.out]
              omega
            have hgo := hN.go
            have hnn : j = im.need.length := by rw [HNQ.out, HIM.out]
            rw [hnn, List.drop_length] at hgo
            have hgo : some names' = addN names im.need := hgo
            have hres := HG.out
            rw [if_neg (fun h => h rfl), ← hgo] at hres
            dsimp only at hres
            obtain ⟨t, ht⟩ := hN.pre
            have hL9 : OrdL fs res (i + 1) names' (out ++ [(n, im)]) := by
              refine ⟨by rw [List.length_append, hL.ni]; rfl, by rw [ht, List.length_append]; omega, hN.h8, hres.symm, ?_, hN.nd, hN.nl, fun u hu => ?_⟩
              · rw [List.map_append, hL.onm, ht, List.take_append_of_le_length hlt, List.take_succ_eq_append_getElem hlt, ← HN.out]
                rfl
              · rcases List.mem_append.1 hu with h | h
                · exact hL.ol u h
                · rw [List.mem_singleton.1 h]; exact HU.out
            have hi8 : i < 8 := by omega
            clear hN hgo hnn hres ht hL
            go_wp2_with (first | (with_reducible refine wl_ld rfl _ 62 rfl _ rfl ?_) | (at_builtin; refine wl_append rfl _ _ _ _ rfl _ _ rfl rfl ?_) | (at_lookup; refine wl_lookup rfl _ _ _ _ rfl _ _ rfl rfl ?_) | (at_mapUpdate; refine wl_mapUpdate rfl _ _ _ _ rfl _ _ _ rfl rfl rfl ?_))
            go_roundw
            case rel => exact ⟨i + 1, names', ps ++ [p], out ++ [(n, im)], by go_num, hO, hL9⟩
            case measure => simp [intOf]; omega
      · have hr := HG.out
        rw [if_pos h0] at hr
        subst hr
        have hne : ((ue : Int) != 0) = true := by simp [h0]
        clear HG HU HR
        go_wp2_with (first | (with_reducible refine wl_ld rfl _ 62 rfl _ rfl ?_) | (at_builtin; refine wl_append rfl _ _ _ _ rfl _ _ rfl rfl ?_))
        go_ret2
        have hz : UsOk (fun k => w.heap.size ≤ k) w6 [] [] := ⟨rfl, fun i p u h => by simp at h⟩
        refine ⟨.slice none 0 0, ?_, [], Fl.nil, hz, hO6.kw⟩
        rfl
    · obtain rfl : i = names.length := Nat.le_antisymm hL.hi hge
      have hres : res = if cycB out then (30, []) else (0, out) := by
        rw [← hL.go]
        have hno : names[out.length]? = none := by rw [hL.ni]; exact List.getElem?_eq_none (Nat.le_refl _)
        cases 8 - names.length with
        | zero => rfl
        | succ k =>
          conv => lhs; unfold orderGo
          rw [hno]
      have hcl := clround_any hO.ou.fl (hO.un.mono fun k h1 h2 => ⟨h2.1, h1⟩) (by rw [hL.onm, List.take_length]; exact hL.nd) (fun u hu => hL.nl u.1 (by
        have : u.1 ∈ out.map (·.1) := List.mem_map.2 ⟨u, hu, rfl⟩
        rw [hL.onm, List.take_length] at this
        exact this)) hL.ol
      obtain ⟨ao, co, eo, _, _⟩ := hO.ou.fl.shape
      have hfl := hO.ou.fl
      have hun := hO.un
      have hkw := hO.kw
      subst eo
      have HRES := Lib.hid hres
      clear hO hL hres
      generalize cycB out = cb at *
      go_wp2_with fail
      refine hcl.mono ?_
      rintro e w9 ⟨rfl, hk9⟩
      have hkw9 := hkw.trans' hk9
      cases cb with
      | true =>
        have hr := HRES.out
        rw [if_pos rfl] at hr
        subst hr
        clear HRES HR
        go_wp2_with fail
        go_ret2
        have hz : UsOk (fun k => w.heap.size ≤ k) w9 [] [] := ⟨rfl, fun i p u h => by simp at h⟩
        refine ⟨.slice none 0 0, ?_, [], Fl.nil, hz, hkw9⟩
        rfl
      | false =>
        have hr := HRES.out
        rw [if_neg (by decide)] at hr
        subst hr
        clear HRES HR
        have hf9 := (hfl.no hk9).mono (B := fun k => w.heap.size ≤ k) fun k _ h => h.1
        have hu9 := (hun.keep hk9 fun _ _ _ h => h).mono (B := fun k => w.heap.size ≤ k) fun k _ h => h.1
        clear hfl hun hcl
        go_wp2_with fail
        go_ret2
        refine ⟨_, ?_, ps, hf9, hu9, hkw9⟩
        rfl
end
end Go.Proofs.YtbnahidopemkiaaGreat
