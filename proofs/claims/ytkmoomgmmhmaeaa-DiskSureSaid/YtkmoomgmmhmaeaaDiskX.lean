/- Write, whole. No condition. -/
import Derived.Test.YtkmoomgmmhmaeaaDiskW
import Derived.Test.YtkmoomgmmhmaeaaDiskV
namespace Go.Proofs.Ytkmoomgmmhmaeaa
open Go.RowKit Go.Dm Go.Dm.Dk Go.Maps

theorem enters_write1 (a b c d : Value) : Enters 38 #[a, b, c, d] := fun w => by kernel_rfl
theorem enters_write2 (a b c d : Value) : Enters 39 #[a, b, c, d] := fun w => by kernel_rfl

theorem find_mem {L : Names} {s : List UInt8} {f : Nat} (hf : find L s = some f) : (s, f) ∈ L := by
  unfold find at hf
  obtain ⟨p, hp, rfl⟩ := Option.map_eq_some_iff.1 hf
  have h1 := List.mem_of_find?_eq_some hp
  have h2 := List.find?_some hp
  have h3 : p.1 = s := by simpa using h2
  rw [← h3]; exact h1

set_option maxRecDepth 100000 in
theorem write1_all {A : Nat → Prop} {d x y z u : Nat} {m : M} {vb : Value} {B : Nat → Prop} (s body : List UInt8) (i : Int) (w : World) (h : DR A w d m) (hfit : Fit m) (hs : s.length ≤ maxLen) (hvb : Bts B w vb body) (hl : body.length ≤ 1099511627776)
    (hx : w.cell? ⟨x, 0, none⟩ = some (.pointer (some ⟨d, 0, none⟩))) (hy : w.cell? ⟨y, 0, none⟩ = some (.string ⟨s.toArray⟩)) (hz : w.cell? ⟨z, 0, none⟩ = some (.int .i64 i)) (hu : w.cell? ⟨u, 0, none⟩ = some vb) :
    Calls Try.prog 38 #[.pointer (some ⟨x, 0, none⟩), .pointer (some ⟨y, 0, none⟩), .pointer (some ⟨z, 0, none⟩), .pointer (some ⟨u, 0, none⟩)] w fun e w' => e = .returned (.int .i64 (own m 2 s [] i body : Nat)) ∧ Keep No w w' := by
  obtain ⟨fb, nb, sb, wv, rows, h0⟩ := h
  have hd := h0.blk.cell 1
  simp only [List.getElem?_toArray, List.getElem?_cons_succ, List.getElem?_cons_zero] at hd
  cases hf : find m.L s with
  | none =>
    have e : own m 2 s [] i body = 20 := by simp [own, hf]
    rw [e]
    refine (write1_none s w hs h0.nm hd hx hy hf).mono ?_
    rintro e w' ⟨rfl, rfl⟩
    exact ⟨rfl, Keep.refl _ _⟩
  | some f =>
    obtain ⟨hfl, hfA, v1, v2, hblk, hv1, hv2⟩ := h0.file f (.inl ⟨s, find_mem hf⟩)
    obtain ⟨a1, c1, rfl, _, hc1⟩ := hv1.shape
    obtain ⟨a2, c2, rfl, _, hc2⟩ := hvb.shape
    have hc : w.cell? ⟨fb.getD f 0, 0, none⟩ = some (.slice a1 (m.is.getD f []).length c1) := hblk.cell 0
    have hn := hfit.il f
    by_cases hi : i < 0 ∨ i > fileLen m.is f
    · have e : own m 2 s [] i body = 1 := by simp only [own, hf]; rw [if_pos hi]
      rw [e]
      exact write1_arg s i w hs h0.nm hd hx hy hz hf rfl hc (hi.imp id (fun h => h))
    · obtain ⟨k, rfl⟩ : ∃ k : Nat, i = k := ⟨i.toNat, by omega⟩
      have hk : k ≤ (m.is.getD f []).length := by
        have : ¬ ((k : Int) > fileLen m.is f) := fun h => hi (.inr h)
        unfold fileLen at this; omega
      have e2 : (k : Int).toNat = k := by omega
      by_cases hg : (m.is.getD f []).length < k + body.length
      · by_cases hr : ((k + body.length - fileLen m.is f : Nat) : Int) > (m.room : Int) - used m
        · have e : own m 2 s [] k body = 22 := by
            simp only [own, hf]; rw [if_neg hi, if_pos ⟨by rw [e2]; exact hg, by rw [e2]; exact hr⟩]
          rw [e]
          exact write1_room s w h0 hfit.us hfit.rm hs hx hy hz hu hf rfl hc hk hn hl hg 22 (.inl ⟨by unfold fileLen at hr; omega, rfl⟩)
        · have e : own m 2 s [] k body = 0 := by
            simp only [own, hf]; rw [if_neg hi, if_neg (by rw [e2]; exact fun h => hr h.2)]
          rw [e]
          exact write1_room s w h0 hfit.us hfit.rm hs hx hy hz hu hf rfl hc hk hn hl hg 0 (.inr ⟨by unfold fileLen at hr; omega, rfl⟩)
      · have e : own m 2 s [] k body = 0 := by
          simp only [own, hf]; rw [if_neg hi, if_neg (by rw [e2]; exact fun h => hg h.1)]
        rw [e]
        exact write1_fits s w hs h0.nm hd hx hy hz hu hf rfl hc hk hn hl (by omega)

set_option maxRecDepth 100000 in
set_option maxHeartbeats 1000000 in
theorem write_any {A B : Nat → Prop} {d : Nat} {m : M} {vb : Value} (s body : List UInt8) (i : Int) (w : World) (h : DR A w d m) (hA : ∀ k, A k → k < w.heap.size) (hfit : Fit m) (hs : s.length ≤ maxLen) (hvb : Bts B w vb body) (hBA : ∀ k, B k → ¬ A k) (hl : body.length ≤ 1099511627776) :
    Calls Try.prog 13 #[.pointer (some ⟨d, 0, none⟩), .string ⟨s.toArray⟩, .int .i64 i, vb] w fun e w' => e = .returned (.int .i64 ((call m 2 s [] i body).2 : Nat)) ∧ DR (Plus A w w') w' d (call m 2 s [] i body).1 ∧ Keep A w w' := by
  obtain ⟨ab, cb, rfl, _, _⟩ := hvb.shape
  go_enter Try.func13, Try.ntmps13
  go_wp2_with (first | (at_builtin; refine wl_append rfl _ _ _ _ rfl _ _ rfl rfl ?_) | (at_make; refine wl_make rfl _ _ _ rfl _ _ rfl rfl ?_) | (at_mapUpdate; refine wl_mapUpdate rfl _ _ _ _ rfl _ _ _ rfl rfl rfl ?_) | (at_lookup; refine wl_lookup rfl _ _ _ _ rfl _ _ rfl rfl ?_) | (at_delete; refine wl_delete rfl _ _ _ _ rfl _ _ rfl rfl ?_) | (with_reducible refine wl_len rfl _ _ rfl _ rfl ?_) | (with_reducible refine wl_range rfl _ _ rfl _ rfl ?_) | (with_reducible refine wl_next rfl _ rfl _ rfl ?_) | (with_reducible refine wl_copy rfl _ _ _ _ rfl _ _ rfl rfl ?_) | (with_reducible refine wl_max rfl _ _ _ _ rfl _ _ rfl rfl ?_) | (with_reducible refine wl_min rfl _ _ _ _ rfl _ _ rfl rfl ?_))
  generalize hW : (((w.alloc (Obj.cells #[Value.pointer (some { block := d, off := 0 })] 23)).alloc (Obj.cells #[Value.string { data := s.toArray }] 9)).alloc (Obj.cells #[Value.int IntKind.i64 i] 3)).alloc (Obj.cells #[Value.slice ab body.length cb] 29) = W
  have hWs : W.heap.size = w.heap.size + 4 := by subst hW; simp
  have hkW : Keep No w W := by subst hW; exact ((((Keep.refl _ _).alloc _).alloc _).alloc _).alloc _
  have hF : Blk W w.heap.size #[Value.pointer (some { block := d, off := 0 })] 23 := by subst hW; exact (((Blk.new _ _ _).alloc _).alloc _).alloc _
  have hV : Blk W (w.heap.size + 1) #[Value.string { data := s.toArray }] 9 := by
    subst hW
    have := Blk.new (w.alloc (Obj.cells #[Value.pointer (some { block := d, off := 0 })] 23)) #[Value.string { data := s.toArray }] 9
    simp only [World.size_alloc] at this
    exact (this.alloc _).alloc _
  have hI : Blk W (w.heap.size + 1 + 1) #[Value.int IntKind.i64 i] 3 := by
    subst hW
    have := Blk.new ((w.alloc (Obj.cells #[Value.pointer (some { block := d, off := 0 })] 23)).alloc (Obj.cells #[Value.string { data := s.toArray }] 9)) #[Value.int IntKind.i64 i] 3
    simp only [World.size_alloc] at this
    exact this.alloc _
  have hU : Blk W (w.heap.size + 1 + 1 + 1) #[Value.slice ab body.length cb] 29 := by
    subst hW
    have := Blk.new (((w.alloc (Obj.cells #[Value.pointer (some { block := d, off := 0 })] 23)).alloc (Obj.cells #[Value.string { data := s.toArray }] 9)).alloc (Obj.cells #[Value.int IntKind.i64 i] 3)) #[Value.slice ab body.length cb] 29
    simp only [World.size_alloc] at this
    exact this
  have hA' : ∀ k, A k → k < W.heap.size := fun k ha => by have := hA k ha; omega
  have h1 := h.keep hA hkW fun _ _ h => h
  have hvb1 : Bts (fun k => B k ∧ k < w.heap.size) w (.slice ab body.length cb) body := hvb.mono fun k hk hb => ⟨hb, hk⟩
  have hvb2 : Bts (fun k => B k ∧ k < w.heap.size) W (.slice ab body.length cb) body := hvb1.keep hkW fun _ _ _ h => h
  have nA : ∀ j, w.heap.size ≤ j → ¬ A j := fun j hj ha => by have := hA _ ha; omega
  refine (step_all (B := A) 2 s [] i body W h1 hA' (fun k ha => ha) hfit.ct (enters_write1 _ _ _ _) (enters_write2 _ _ _ _) ?_ ?_).mono ?_
  · intro _
    exact write1_all s body i W h1 hfit hs hvb2 hl ((hF.cell 0).trans rfl) ((hV.cell 0).trans rfl) ((hI.cell 0).trans rfl) ((hU.cell 0).trans rfl)
  · intro w1 ho h2 k2
    obtain ⟨fb, nb, sb, wv, rows, h0⟩ := h2
    have hfn : ∃ f, find m.L s = some f ∧ 0 ≤ i ∧ i ≤ fileLen m.is f := by
      unfold own at ho
      cases hf : find m.L s with
      | none => rw [hf] at ho; cases ho
      | some f =>
        simp only [hf] at ho
        by_cases hi : i < 0 ∨ i > fileLen m.is f
        · rw [if_pos hi] at ho; cases ho
        · exact ⟨f, rfl, by omega, by omega⟩
    obtain ⟨f, hf, hi0, hi1⟩ := hfn
    obtain ⟨k, rfl⟩ : ∃ k : Nat, i = k := ⟨i.toNat, by omega⟩
    have hn := hfit.il f
    unfold fileLen at hi1
    exact write2_any (B := fun k => B k ∧ k < w.heap.size) s body w1 h0 hs hfit.wl ((hF.keep k2 (nA _ (by omega))).cell 0 |>.trans rfl) ((hV.keep k2 (nA _ (by omega))).cell 0 |>.trans rfl) ((hI.keep k2 (nA _ (by omega))).cell 0 |>.trans rfl) ((hU.keep k2 (nA _ (by omega))).cell 0 |>.trans rfl)
      hf (hvb2.keep k2 fun j _ hb => hBA j hb.1) (fun k hb => by have := k2.size; omega) (fun k hb => hBA k hb.1) (nA _ (by omega)) (nA _ (by omega)) (nA _ (by omega)) (by omega) hl hn
  · rintro e w' ⟨rfl, h2, k2⟩
    go_wp2_with (first | (at_builtin; refine wl_append rfl _ _ _ _ rfl _ _ rfl rfl ?_) | (at_make; refine wl_make rfl _ _ _ rfl _ _ rfl rfl ?_) | (at_mapUpdate; refine wl_mapUpdate rfl _ _ _ _ rfl _ _ _ rfl rfl rfl ?_) | (at_lookup; refine wl_lookup rfl _ _ _ _ rfl _ _ rfl rfl ?_) | (at_delete; refine wl_delete rfl _ _ _ _ rfl _ _ rfl rfl ?_) | (with_reducible refine wl_len rfl _ _ rfl _ rfl ?_) | (with_reducible refine wl_range rfl _ _ rfl _ rfl ?_) | (with_reducible refine wl_next rfl _ rfl _ rfl ?_) | (with_reducible refine wl_copy rfl _ _ _ _ rfl _ _ rfl rfl ?_) | (with_reducible refine wl_max rfl _ _ _ _ rfl _ _ rfl rfl ?_) | (with_reducible refine wl_min rfl _ _ _ _ rfl _ _ rfl rfl ?_))
    go_ret
    refine ⟨rfl, h2.mono fun k hk ha => ?_, (hkW.mono fun _ _ h => h.elim).trans' k2⟩
    rcases ha with ha | ha
    · exact .inl ha
    · exact .inr ⟨by omega, hk⟩
end Go.Proofs.Ytkmoomgmmhmaeaa
