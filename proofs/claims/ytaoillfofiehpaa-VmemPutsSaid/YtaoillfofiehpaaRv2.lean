/- The document's find, there, may, Noughts (chapter 13). The document's may, Noughts, there, Map (chapter 13). No condition. -/
import Derived.Test.YtaoillfofiehpaaVmL
import Derived.Test.YtaoillfofiehpaaSigT
import Derived.Test.YtaoillfofiehpaaVmG
import Derived.Test.YtaoillfofiehpaaSortV
set_option linter.unusedVariables false
set_option linter.unusedSimpArgs false
namespace Go.Proofs.Ytaoillfofiehpaa
open Go.RowKit Go.Dm Go.Dm.Vm Go.Maps Go.Dm.Oc

/-- a page as the document has it -/
def encS (p : Pg) : List Value := [.int .u64 (p.addr : Int), .int .i64 (p.prot : Int), .bool p.dirty, .string ⟨p.file.toArray⟩, .int .u64 (p.off : Int), .string ⟨p.b.toArray⟩]
theorem encS_len (p : Pg) : (encS p).length = 6 := rfl
theorem encS_one (p : Pg) : ∀ u ∈ encS p, u.oneCell' = true := by
  intro u hu
  simp only [encS, List.mem_cons, List.not_mem_nil, or_false] at hu
  rcases hu with rfl | rfl | rfl | rfl | rfl | rfl <;> rfl
theorem rvP_info : (Try.prog.info? 72).map (fun i => (i.zero, i.size, i.bytes)) = some (some (.agg #[.int .u64 0, .int .i64 0, .bool false, .string ⟨#[]⟩, .int .u64 0, .string ⟨#[]⟩]), 6, 64) := by kernel_rfl
section
variable {α : Type} {w : World} {k : Nat} {enc : α → List Value} {v : Value} {l : List α} {base : Nat} {e : TypeId} {P : Program}
theorem rg_pushD (nd : Nat) (z : Value) (bytes : Nat) {t ty : TypeId} (ht : P.underlying t = some (.slice e)) (hi : (P.info? e).map (fun i => (i.zero, i.size, i.bytes)) = some (some z, k, bytes)) (hzs : z.cells.size = k) (hk0 : 0 < k)
    {x : α} {cs : Array Value} (hcs : cs.toList = enc x) (hx : (enc x).length = k) (hone : ∀ u ∈ enc x, u.oneCell' = true) (ho : FlO w base e k enc v l) (hlen : l.length + 1 ≤ 1099511627776) (hb : bytes ≤ 128) (hbase : base ≤ w.heap.size) {K : Value → World → Prop}
    (h : ∀ v' w', FlO w' base e k enc v' (l ++ [x]) → Keep (fun j => some j = v.ownBlock) w w' → K v' w') : AppendGoal P t t ty v (.slice (some ⟨w.heap.size, 0, none⟩) 1 1) ((w.drewN nd).alloc (.cells cs e)) K :=
  rg_push (w := w.drewN nd) z bytes ht hi hzs hk0 hcs hx hone ho hlen hb hbase fun v' w' h1 h2 _ => h v' w' h1 (((Keep.refl (fun j => some j = v.ownBlock) w).drewN nd).trans' h2)
end
section
variable {A : Nat → Prop} {w : World} {m : V} {v : Value}
set_option maxRecDepth 100000 in
set_option maxHeartbeats 2000000 in
theorem rvfind_any (a : Nat) (ha : a < 18446744073709551616) (h : Fl A w 6 encS v m) (hl : m.length ≤ 1099511627776) (hpa : ∀ p ∈ m, p.addr < 18446744073709551616) :
    Calls Try.prog 49 #[.agg #[v], .int .u64 (a : Int)] w fun e w' => ∃ r : Int, e = .returned (.int .i64 r) ∧ ((r = -1 ∧ ∀ p ∈ m, p.addr ≠ pageOf a) ∨ ∃ (i : Nat) (hi : i < m.length), r = i ∧ m[i].addr = pageOf a) ∧ Keep No w w' := by
  obtain ⟨av, cv, rfl, _, _⟩ := h.shape
  have hq : (a : Int).tdiv 256 = ((a / 256 : Nat) : Int) := by rw [Int.tdiv_eq_ediv_of_nonneg (by omega)]; omega
  have hpo : ((a / 256 : Nat) : Int) * 256 = ((pageOf a : Nat) : Int) := by unfold pageOf; omega
  have hpb : ((pageOf a : Nat) : Int) < 18446744073709551616 := by have := pageOf_le a; omega
  generalize a / 256 = q at *
  generalize pageOf a = pa at *
  go_enter Try.func49, Try.ntmps49
  go_wp2_with fail
  have hkW : Keep No w (w.alloc (.cells #[.slice av m.length cv] 34)) := (Keep.refl _ _).alloc _
  have hBW : Blk (w.alloc (.cells #[.slice av m.length cv] 34)) w.heap.size #[.slice av m.length cv] 34 := Blk.new _ _ _
  have hzW : (w.alloc (.cells #[.slice av m.length cv] 34)).heap.size = w.heap.size + 1 := World.size_alloc _ _
  generalize w.alloc (.cells #[.slice av m.length cv] 34) = W at *
  have q0 : W.cell? ⟨w.heap.size, 0, none⟩ = some (.slice av m.length cv) := hBW.cell 0
  go_wp2_with fail
  go_loopw [5] (fun iv wr => ∃ i : Nat, iv = .int .i64 i ∧ i ≤ m.length ∧ (∀ j (hj : j < m.length), j < i → m[j].addr ≠ pa) ∧ wr = W) (fun iv _ => m.length - (intOf iv).toNat)
  case atStart => exact ⟨0, rfl, Nat.zero_le _, fun j _ hj => absurd hj (Nat.not_lt_zero _), rfl⟩
  case round =>
    obtain ⟨i, rfl, hi, hno, rfl⟩ := hrel
    rcases Nat.lt_or_ge i m.length with hlt | hge
    · obtain ⟨g, off, cap, e, _, _, _, _, hc⟩ := (h.no hkW).at encS_len hlt
      cases e
      have c0 := hc 0 _ rfl
      rw [Nat.add_zero] at c0
      have hiz : (i : Int) < (m.length : Int) := by omega
      have hno2 : m[i].addr ≠ pa → ∀ j (hj : j < m.length), j < i + 1 → m[j].addr ≠ pa := fun h j hj hji => by
        rcases Nat.lt_or_ge j i with h2 | h2
        · exact hno j hj h2
        · obtain rfl : j = i := by omega
          exact h
      have hfin : m[i].addr = pa → ∃ (k : Nat) (hk : k < m.length), (i : Int) = k ∧ m[k].addr = pa := fun h => ⟨i, hlt, rfl, h⟩
      have HF := Lib.hid hfin
      have HN := Lib.hid hno2
      have hab := hpa m[i] (List.getElem_mem hlt)
      clear hc hno hfin hno2
      generalize m[i].addr = x at *
      by_cases e : x = pa
      · subst e
        go_wp2_with fail
        go_ret
        obtain ⟨k, hk, e1, e2⟩ := HF.out (by trivial)
        exact ⟨_, rfl, .inr ⟨k, e1, hk, e2⟩, hkW⟩
      · have i1 : ((x : Int) == (pa : Int)) = false := by simp; omega
        go_wp2_with fail
        go_roundw
        case rel => exact ⟨i + 1, by go_num, hlt, HN.out e, trivial⟩
        case measure => simp [intOf]; omega
    · obtain rfl : i = m.length := Nat.le_antisymm hi hge
      go_wp2_with fail
      go_ret
      exact ⟨_, rfl, .inl ⟨rfl, fun p hp => by obtain ⟨j, hj, rfl⟩ := List.getElem_of_mem hp; exact hno j hj hj⟩, hkW⟩
set_option maxRecDepth 100000 in
set_option maxHeartbeats 4000000 in
theorem rvwith_any (p : Pg) (h : Fl A w 6 encS v m) (hA : ∀ k, A k → k < w.heap.size) (hl : m.length ≤ 1000000) (hpa : ∀ q ∈ m, q.addr < 18446744073709551616) (hp : p.addr < 18446744073709551616) :
    Calls Try.prog 35 #[.agg #[v], .agg (encS p).toArray] w fun e w' => ∃ v', e = .returned (.agg #[v']) ∧ FlO w' w.heap.size 72 6 encS v' (withP p m false) ∧ Keep No w w' := by
  obtain ⟨av, cv, rfl, _, _⟩ := h.shape
  rw [show (encS p).toArray = #[.int .u64 (p.addr : Int), .int .i64 (p.prot : Int), .bool p.dirty, .string ⟨p.file.toArray⟩, .int .u64 (p.off : Int), .string ⟨p.b.toArray⟩] from rfl]
  generalize hR : withP p m false = R
  go_enter Try.func35, Try.ntmps35
  go_wp2_with fail
  have hkW1 : Keep No w (w.alloc (.cells #[.slice av m.length cv] 34)) := (Keep.refl _ _).alloc _
  have hBW1 : Blk (w.alloc (.cells #[.slice av m.length cv] 34)) w.heap.size #[.slice av m.length cv] 34 := Blk.new _ _ _
  have hzW1 : (w.alloc (.cells #[.slice av m.length cv] 34)).heap.size = w.heap.size + 1 := World.size_alloc _ _
  generalize w.alloc (.cells #[.slice av m.length cv] 34) = W1 at *
  have hkW2 : Keep No W1 (W1.alloc (.cells #[.int .u64 (p.addr : Int), .int .i64 (p.prot : Int), .bool p.dirty, .string ⟨p.file.toArray⟩, .int .u64 (p.off : Int), .string ⟨p.b.toArray⟩] 72)) := (Keep.refl _ _).alloc _
  have hBW2 : Blk (W1.alloc (.cells #[.int .u64 (p.addr : Int), .int .i64 (p.prot : Int), .bool p.dirty, .string ⟨p.file.toArray⟩, .int .u64 (p.off : Int), .string ⟨p.b.toArray⟩] 72)) W1.heap.size #[.int .u64 (p.addr : Int), .int .i64 (p.prot : Int), .bool p.dirty, .string ⟨p.file.toArray⟩, .int .u64 (p.off : Int), .string ⟨p.b.toArray⟩] 72 := Blk.new _ _ _
  have hzW2 : (W1.alloc (.cells #[.int .u64 (p.addr : Int), .int .i64 (p.prot : Int), .bool p.dirty, .string ⟨p.file.toArray⟩, .int .u64 (p.off : Int), .string ⟨p.b.toArray⟩] 72)).heap.size = W1.heap.size + 1 := World.size_alloc _ _
  generalize W1.alloc (.cells #[.int .u64 (p.addr : Int), .int .i64 (p.prot : Int), .bool p.dirty, .string ⟨p.file.toArray⟩, .int .u64 (p.off : Int), .string ⟨p.b.toArray⟩] 72) = W2 at *
  have hkW3 : Keep No W2 (W2.alloc (.cells #[.slice none 0 0] 34)) := (Keep.refl _ _).alloc _
  have hBW3 : Blk (W2.alloc (.cells #[.slice none 0 0] 34)) W2.heap.size #[.slice none 0 0] 34 := Blk.new _ _ _
  have hzW3 : (W2.alloc (.cells #[.slice none 0 0] 34)).heap.size = W2.heap.size + 1 := World.size_alloc _ _
  generalize W2.alloc (.cells #[.slice none 0 0] 34) = W3 at *
  rw [hzW1] at hBW2 hzW2
  rw [hzW2] at hBW3
  have hkW : Keep No w W3 := (hkW1.trans' hkW2).trans' hkW3
  have b1 := hBW1.keep (hkW2.trans' hkW3) fun h => h
  have b2 := hBW2.keep hkW3 fun h => h
  have b3 := hBW3
  have hlz : (m.length : Int) ≤ 1000000 := by omega
  clear hBW1 hBW2 hBW3 hkW1 hkW2 hkW3 hzW1 hzW2 hzW3
  go_wp2_with fail
  go_loopw [5, 6, 7] (fun lv pv iv wr => ∃ (i : Nat) (L : V) (put : Bool), lv = lv ∧ pv = .bool put ∧ iv = .int .i64 i ∧ i ≤ m.length ∧ FlO wr W3.heap.size 72 6 encS lv L ∧ L ++ withP p (m.drop i) put = R ∧ L.length ≤ 2 * i ∧ Keep No W3 wr) (fun _ _ iv _ => m.length - (intOf iv).toNat)
  case atStart => exact ⟨0, [], false, rfl, rfl, rfl, Nat.zero_le _, FlO.nil, hR, Nat.zero_le _, Keep.refl _ _⟩
  case round =>
    obtain ⟨i, L, put, _, rfl, rfl, hi, ho, hL, hLl, hk⟩ := hrel
    obtain ⟨al, cl, rfl, _, _⟩ := ho.fl.shape
    rcases Nat.lt_or_ge i m.length with hlt | hge
    · have hiz : (i : Int) < (m.length : Int) := by omega
      have hdr : m.drop i = m[i] :: m.drop (i + 1) := List.drop_eq_getElem_cons hlt
      have hab := hpa m[i] (List.getElem_mem hlt)
      rw [hdr] at hL
      simp only [withP] at hL
      have q0 : wr.cell? ⟨w.heap.size, 0, none⟩ = some (.slice av m.length cv) := (hk.cell (p := ⟨w.heap.size, 0, none⟩) b1.lt fun h => h).trans (b1.cell 0)
      have q1 : wr.cell? ⟨w.heap.size + 1, 0, none⟩ = some (.int .u64 (p.addr : Int)) := (hk.cell (p := ⟨w.heap.size + 1, 0, none⟩) b2.lt fun h => h).trans (b2.cell 0)
      have q2 : wr.cell? ⟨w.heap.size + 1, 1, none⟩ = some (.int .i64 (p.prot : Int)) := (hk.cell (p := ⟨w.heap.size + 1, 1, none⟩) b2.lt fun h => h).trans (b2.cell 1)
      have q3 : wr.cell? ⟨w.heap.size + 1, 2, none⟩ = some (.bool p.dirty) := (hk.cell (p := ⟨w.heap.size + 1, 2, none⟩) b2.lt fun h => h).trans (b2.cell 2)
      have q4 : wr.cell? ⟨w.heap.size + 1, 3, none⟩ = some (.string ⟨p.file.toArray⟩) := (hk.cell (p := ⟨w.heap.size + 1, 3, none⟩) b2.lt fun h => h).trans (b2.cell 3)
      have q5 : wr.cell? ⟨w.heap.size + 1, 4, none⟩ = some (.int .u64 (p.off : Int)) := (hk.cell (p := ⟨w.heap.size + 1, 4, none⟩) b2.lt fun h => h).trans (b2.cell 4)
      have q6 : wr.cell? ⟨w.heap.size + 1, 5, none⟩ = some (.string ⟨p.b.toArray⟩) := (hk.cell (p := ⟨w.heap.size + 1, 5, none⟩) b2.lt fun h => h).trans (b2.cell 5)
      obtain ⟨g, off, cap, e, _, hgl, _, _, hc⟩ := (h.no (hkW.trans' hk)).at encS_len hlt
      cases e
      have c0 : wr.cell? ⟨g, off + i * 6, none⟩ = some (.int .u64 (m[i].addr : Int)) := hc 0 _ rfl
      have c1 : wr.cell? ⟨g, off + i * 6 + 1, none⟩ = some (.int .i64 (m[i].prot : Int)) := hc 1 _ rfl
      have c2 : wr.cell? ⟨g, off + i * 6 + 2, none⟩ = some (.bool m[i].dirty) := hc 2 _ rfl
      have c3 : wr.cell? ⟨g, off + i * 6 + 3, none⟩ = some (.string ⟨m[i].file.toArray⟩) := hc 3 _ rfl
      have c4 : wr.cell? ⟨g, off + i * 6 + 4, none⟩ = some (.int .u64 (m[i].off : Int)) := hc 4 _ rfl
      have c5 : wr.cell? ⟨g, off + i * 6 + 5, none⟩ = some (.string ⟨m[i].b.toArray⟩) := hc 5 _ rfl
      clear hc
      have hqm := @Lib.hid (m[i] = m[i]) rfl
      generalize hq : m[i] = q at *
      have HQ := Lib.hid hq
      clear hq hqm hdr
      cases put with
      | true =>
        by_cases hne : q.addr = p.addr
        · have hL2 : L ++ withP p (m.drop (i + 1)) true = R := by simpa [hne] using hL
          have i1 : ((q.addr : Int) == (p.addr : Int)) = true := by simp; omega
          have i2 : (q.addr == p.addr) = true := by simpa using hne
          clear hL
          go_wp2_with fail
          go_quiet (fail)
          go_wp2_with fail
          go_quiet (fail)
          go_wp2_with fail
          go_roundw
          case rel => exact ⟨i + 1, L, true, trivial, rfl, by go_num, hlt, ho, hL2, by omega, hk.drewN _⟩
          case measure => simp [intOf]; omega
        · have hL2 : (L ++ [q]) ++ withP p (m.drop (i + 1)) true = R := by simpa [hne] using hL
          have i1 : ((q.addr : Int) == (p.addr : Int)) = false := by simp; omega
          have i2 : (q.addr == p.addr) = false := by simpa using hne
          clear hL hne
          go_wp2_with fail
          go_quiet (fail)
          go_wp2_with fail
          go_quiet (fail)
          go_wp2_with (at_builtin; refine wl_append rfl _ _ _ _ rfl _ _ rfl rfl ?_)
          refine rg_pushD (cs := #[.int .u64 (q.addr : Int), .int .i64 (q.prot : Int), .bool q.dirty, .string ⟨q.file.toArray⟩, .int .u64 (q.off : Int), .string ⟨q.b.toArray⟩]) _ _ 64 Try.underlying32 rvP_info rfl (by decide) (enc := encS) (x := q) rfl rfl (encS_one _) (by exact ho) (by omega) (by decide) (by exact hk.size) ?_
          intro lv2 w2 ho2 hk2
          have hkn : Keep No W3 w2 := hk.own ho hk2
          obtain ⟨al2, cl2, rfl, _, _⟩ := ho2.fl.shape
          go_wp2_with fail
          go_roundw
          case rel => exact ⟨i + 1, L ++ [q], true, trivial, rfl, by go_num, hlt, ho2, hL2, by simp; omega, hkn⟩
          case measure => simp [intOf]; omega
      | false =>
        by_cases hge : p.addr ≤ q.addr
        · have j1 : decide ((p.addr : Int) ≤ (q.addr : Int)) = true := by simp; omega
          have j2 : decide (p.addr ≤ q.addr) = true := by simpa using hge
          by_cases hne : q.addr = p.addr
          · have hL2 : (L ++ [p]) ++ withP p (m.drop (i + 1)) true = R := by simpa [hne, hge] using hL
            have i1 : ((q.addr : Int) == (p.addr : Int)) = true := by simp; omega
            have i2 : (q.addr == p.addr) = true := by simpa using hne
            clear hL hge
            go_wp2_with fail
            go_quiet (fail)
            go_wp2_with (at_builtin; refine wl_append rfl _ _ _ _ rfl _ _ rfl rfl ?_)
            refine rg_pushD (cs := #[.int .u64 (p.addr : Int), .int .i64 (p.prot : Int), .bool p.dirty, .string ⟨p.file.toArray⟩, .int .u64 (p.off : Int), .string ⟨p.b.toArray⟩]) _ _ 64 Try.underlying32 rvP_info rfl (by decide) (enc := encS) (x := p) rfl rfl (encS_one _) (by exact ho) (by omega) (by decide) (by exact hk.size) ?_
            intro lv2 w2 ho2 hk2
            have hkn : Keep No W3 w2 := hk.own ho hk2
            obtain ⟨al2, cl2, rfl, _, _⟩ := ho2.fl.shape
            have hk := hkn
            clear q0 q1 q2 q3 q4 q5 q6 c0 c1 c2 c3 c4 c5
            have q0 : w2.cell? ⟨w.heap.size, 0, none⟩ = _ := (hk.cell (p := ⟨w.heap.size, 0, none⟩) b1.lt fun h => h).trans (b1.cell 0)
            have q1 : w2.cell? ⟨w.heap.size + 1, 0, none⟩ = some (.int .u64 (p.addr : Int)) := (hk.cell (p := ⟨w.heap.size + 1, 0, none⟩) b2.lt fun h => h).trans (b2.cell 0)
            simp only [List.getElem?_toArray, List.getElem?_cons_zero] at q0
            obtain ⟨g, off, cap, e, _, hgl, _, _, hc⟩ := (h.no (hkW.trans' hk)).at encS_len hlt
            cases e
            have c0 : w2.cell? ⟨g, off + i * 6, none⟩ = some (.int .u64 (q.addr : Int)) := by have := hc 0 _ rfl; rw [HQ.out] at this; exact this
            clear hc
            go_wp2_with fail
            go_quiet (fail)
            go_wp2_with fail
            go_roundw
            case rel => exact ⟨i + 1, L ++ [p], true, trivial, rfl, by go_num, hlt, ho2, hL2, by simp; omega, hk.drewN _⟩
            case measure => simp [intOf]; omega
          · have hL2 : (L ++ [p] ++ [q]) ++ withP p (m.drop (i + 1)) true = R := by simpa [hne, hge] using hL
            have i1 : ((q.addr : Int) == (p.addr : Int)) = false := by simp; omega
            have i2 : (q.addr == p.addr) = false := by simpa using hne
            clear hL hge hne
            go_wp2_with fail
            go_quiet (fail)
            go_wp2_with (at_builtin; refine wl_append rfl _ _ _ _ rfl _ _ rfl rfl ?_)
            refine rg_pushD (cs := #[.int .u64 (p.addr : Int), .int .i64 (p.prot : Int), .bool p.dirty, .string ⟨p.file.toArray⟩, .int .u64 (p.off : Int), .string ⟨p.b.toArray⟩]) _ _ 64 Try.underlying32 rvP_info rfl (by decide) (enc := encS) (x := p) rfl rfl (encS_one _) (by exact ho) (by omega) (by decide) (by exact hk.size) ?_
            intro lv2 w2 ho2 hk2
            have hkn : Keep No W3 w2 := hk.own ho hk2
            obtain ⟨al2, cl2, rfl, _, _⟩ := ho2.fl.shape
            have hk := hkn
            clear q0 q1 q2 q3 q4 q5 q6 c0 c1 c2 c3 c4 c5
            have q0 : w2.cell? ⟨w.heap.size, 0, none⟩ = _ := (hk.cell (p := ⟨w.heap.size, 0, none⟩) b1.lt fun h => h).trans (b1.cell 0)
            have q1 : w2.cell? ⟨w.heap.size + 1, 0, none⟩ = some (.int .u64 (p.addr : Int)) := (hk.cell (p := ⟨w.heap.size + 1, 0, none⟩) b2.lt fun h => h).trans (b2.cell 0)
            simp only [List.getElem?_toArray, List.getElem?_cons_zero] at q0
            obtain ⟨g, off, cap, e, _, hgl, _, _, hc⟩ := (h.no (hkW.trans' hk)).at encS_len hlt
            cases e
            rw [HQ.out] at hc
            have c0 : w2.cell? ⟨g, off + i * 6, none⟩ = some (.int .u64 (q.addr : Int)) := hc 0 _ rfl
            have c1 : w2.cell? ⟨g, off + i * 6 + 1, none⟩ = some (.int .i64 (q.prot : Int)) := hc 1 _ rfl
            have c2 : w2.cell? ⟨g, off + i * 6 + 2, none⟩ = some (.bool q.dirty) := hc 2 _ rfl
            have c3 : w2.cell? ⟨g, off + i * 6 + 3, none⟩ = some (.string ⟨q.file.toArray⟩) := hc 3 _ rfl
            have c4 : w2.cell? ⟨g, off + i * 6 + 4, none⟩ = some (.int .u64 (q.off : Int)) := hc 4 _ rfl
            have c5 : w2.cell? ⟨g, off + i * 6 + 5, none⟩ = some (.string ⟨q.b.toArray⟩) := hc 5 _ rfl
            clear hc ho
            have ho := ho2
            have hLl2 : (L ++ [p]).length ≤ 2 * i + 1 := by simp; omega
            have hll : (L ++ [p]).length = L.length + 1 := by simp
            rw [hll] at ho ⊢
            clear ho2 hkn
            go_wp2_with fail
            go_quiet (fail)
            go_wp2_with (at_builtin; refine wl_append rfl _ _ _ _ rfl _ _ rfl rfl ?_)
            refine rg_pushD (l := L ++ [p]) (cs := #[.int .u64 (q.addr : Int), .int .i64 (q.prot : Int), .bool q.dirty, .string ⟨q.file.toArray⟩, .int .u64 (q.off : Int), .string ⟨q.b.toArray⟩]) _ _ 64 Try.underlying32 rvP_info rfl (by decide) (enc := encS) (x := q) rfl rfl (encS_one _) (by exact ho) (by omega) (by decide) (by exact hk.size) ?_
            intro lv3 w3 ho2 hk2
            have hkn : Keep No W3 w3 := hk.own ho hk2
            obtain ⟨al3, cl3, rfl, _, _⟩ := ho2.fl.shape
            go_wp2_with fail
            go_roundw
            case rel => exact ⟨i + 1, L ++ [p] ++ [q], true, trivial, rfl, by go_num, hlt, ho2, hL2, by simp; omega, hkn⟩
            case measure => simp [intOf]; omega
        · have j1 : decide ((p.addr : Int) ≤ (q.addr : Int)) = false := by simp; omega
          have j2 : decide (p.addr ≤ q.addr) = false := by simpa using hge
          have hne : q.addr ≠ p.addr := by omega
          have hL2 : (L ++ [q]) ++ withP p (m.drop (i + 1)) false = R := by simpa [hne, hge] using hL
          have i1 : ((q.addr : Int) == (p.addr : Int)) = false := by simp; omega
          have i2 : (q.addr == p.addr) = false := by simpa using hne
          clear hL hge hne
          go_wp2_with fail
          go_quiet (fail)
          go_wp2_with fail
          go_quiet (fail)
          go_wp2_with (at_builtin; refine wl_append rfl _ _ _ _ rfl _ _ rfl rfl ?_)
          refine rg_pushD (cs := #[.int .u64 (q.addr : Int), .int .i64 (q.prot : Int), .bool q.dirty, .string ⟨q.file.toArray⟩, .int .u64 (q.off : Int), .string ⟨q.b.toArray⟩]) _ _ 64 Try.underlying32 rvP_info rfl (by decide) (enc := encS) (x := q) rfl rfl (encS_one _) (by exact ho) (by omega) (by decide) (by exact hk.size) ?_
          intro lv2 w2 ho2 hk2
          have hkn : Keep No W3 w2 := hk.own ho hk2
          obtain ⟨al2, cl2, rfl, _, _⟩ := ho2.fl.shape
          go_wp2_with fail
          go_roundw
          case rel => exact ⟨i + 1, L ++ [q], false, trivial, rfl, by go_num, hlt, ho2, hL2, by simp; omega, hkn⟩
          case measure => simp [intOf]; omega
    · obtain rfl : i = m.length := Nat.le_antisymm hi hge
      rw [List.drop_length] at hL
      have q0 : wr.cell? ⟨w.heap.size, 0, none⟩ = some (.slice av m.length cv) := (hk.cell (p := ⟨w.heap.size, 0, none⟩) b1.lt fun h => h).trans (b1.cell 0)
      have q1 : wr.cell? ⟨w.heap.size + 1, 0, none⟩ = some (.int .u64 (p.addr : Int)) := (hk.cell (p := ⟨w.heap.size + 1, 0, none⟩) b2.lt fun h => h).trans (b2.cell 0)
      have q2 : wr.cell? ⟨w.heap.size + 1, 1, none⟩ = some (.int .i64 (p.prot : Int)) := (hk.cell (p := ⟨w.heap.size + 1, 1, none⟩) b2.lt fun h => h).trans (b2.cell 1)
      have q3 : wr.cell? ⟨w.heap.size + 1, 2, none⟩ = some (.bool p.dirty) := (hk.cell (p := ⟨w.heap.size + 1, 2, none⟩) b2.lt fun h => h).trans (b2.cell 2)
      have q4 : wr.cell? ⟨w.heap.size + 1, 3, none⟩ = some (.string ⟨p.file.toArray⟩) := (hk.cell (p := ⟨w.heap.size + 1, 3, none⟩) b2.lt fun h => h).trans (b2.cell 3)
      have q5 : wr.cell? ⟨w.heap.size + 1, 4, none⟩ = some (.int .u64 (p.off : Int)) := (hk.cell (p := ⟨w.heap.size + 1, 4, none⟩) b2.lt fun h => h).trans (b2.cell 4)
      have q6 : wr.cell? ⟨w.heap.size + 1, 5, none⟩ = some (.string ⟨p.b.toArray⟩) := (hk.cell (p := ⟨w.heap.size + 1, 5, none⟩) b2.lt fun h => h).trans (b2.cell 5)
      have qr : wr.cell? ⟨w.heap.size + 1 + 1, 0, none⟩ = some (.slice none 0 0) := (hk.cell (p := ⟨w.heap.size + 1 + 1, 0, none⟩) b3.lt fun h => h).trans (b3.cell 0)
      cases put with
      | true =>
        have hL2 : L = R := by simpa [withP] using hL
        have hB := (b3.keep hk fun h => h)
        have hfz := hB.frozen 0
        have hBs := hB.set (i := 0) (.slice al L.length cl)
        have hkf : Keep No w (wr.setCell ⟨w.heap.size + 1 + 1, 0, none⟩ (.slice al L.length cl)) := (hkW.trans' hk).new (by simp; omega) _
        have hof : FlO (wr.setCell ⟨w.heap.size + 1 + 1, 0, none⟩ (.slice al L.length cl)) w.heap.size 72 6 encS (.slice al L.length cl) L := by
          refine World.ownsRow.base_le (FlO.same ho fun g hg => Below.heap_setCell _ _ _ _ fun e => ?_) hkW.size
          have h1 := (World.ownsRow.lt ho g hg).1
          have h2 := b3.lt
          have e2 : g = w.heap.size + 1 + 1 := e
          omega
        subst hL2
        clear hR
        go_wp2_with fail
        refine ret_blk rfl rfl hBs Try.underlying34 rfl (by kernel_rfl) rfl ?_
        exact ⟨_, rfl, hof, hkf⟩
      | false =>
        have hL2 : L ++ [p] = R := by simpa [withP] using hL
        subst hL2
        clear hR
        go_wp2_with (at_builtin; refine wl_append rfl _ _ _ _ rfl _ _ rfl rfl ?_)
        refine rg_pushD (w := wr) 0 _ 64 (cs := #[.int .u64 (p.addr : Int), .int .i64 (p.prot : Int), .bool p.dirty, .string ⟨p.file.toArray⟩, .int .u64 (p.off : Int), .string ⟨p.b.toArray⟩]) Try.underlying32 rvP_info rfl (by decide) (enc := encS) (x := p) rfl rfl (encS_one _) (by exact ho) (by omega) (by decide) (by exact hk.size) ?_
        intro lv2 w2 ho2 hk2
        have hkn : Keep No W3 w2 := hk.own ho hk2
        obtain ⟨al2, cl2, rfl, _, _⟩ := ho2.fl.shape
        have qr2 : w2.cell? ⟨w.heap.size + 1 + 1, 0, none⟩ = some (.slice none 0 0) := (hkn.cell (p := ⟨w.heap.size + 1 + 1, 0, none⟩) b3.lt fun h => h).trans (b3.cell 0)
        have hB := (b3.keep hkn fun h => h)
        have hfz := hB.frozen 0
        have hBs := hB.set (i := 0) (.slice al2 (L ++ [p]).length cl2)
        have hkf : Keep No w (w2.setCell ⟨w.heap.size + 1 + 1, 0, none⟩ (.slice al2 (L ++ [p]).length cl2)) := (hkW.trans' hkn).new (by simp; omega) _
        have hof : FlO (w2.setCell ⟨w.heap.size + 1 + 1, 0, none⟩ (.slice al2 (L ++ [p]).length cl2)) w.heap.size 72 6 encS (.slice al2 (L ++ [p]).length cl2) (L ++ [p]) := by
          refine World.ownsRow.base_le (FlO.same ho2 fun g hg => Below.heap_setCell _ _ _ _ fun e => ?_) hkW.size
          have h1 := (World.ownsRow.lt ho2 g hg).1
          have h2 := b3.lt
          have e2 : g = w.heap.size + 1 + 1 := e
          omega
        generalize (L ++ [p]).length = nl at *
        clear q0 q1 q2 q3 q4 q5 q6 qr
        go_wp2_with fail
        refine ret_blk rfl rfl hBs Try.underlying34 rfl (by kernel_rfl) rfl ?_
        exact ⟨_, rfl, hof, hkf⟩
end
end Go.Proofs.Ytaoillfofiehpaa
namespace Go.Proofs.Ytaoillfofiehpaa
open Go.RowKit Go.Dm Go.Dm.Vm Go.Maps Go.Dm.Oc

theorem under_u8 : Try.prog.underlying 5 = some (.int .u8) := Try.underlying5
/-- string(b) -/
theorem conv_str {A : Nat → Prop} {w : World} {v : Value} {l : List UInt8} (h : Bts A w v l) : (convert 25 9 v).run Try.prog w = .ok (.string ⟨l.toArray⟩) w := by
  obtain ⟨_, a, cap, rfl, hn, _, h0, hr⟩ := h
  cases a with
  | none =>
    obtain rfl := h0 rfl
    obtain rfl : l = [] := List.eq_nil_of_length_eq_zero (by omega)
    exact run_convert_bytes_nil (P := Try.prog) (w := w) 25 5 Try.underlying25 under_u8 0 0 9 Try.underlying9
  | some a =>
    refine run_convert_bytes_back (P := Try.prog) w 25 9 5 a cap l Try.underlying25 under_u8 Try.underlying9 fun j hj => ?_
    obtain ⟨g, off, e2, _, _, hc⟩ := hr (by omega)
    cases e2
    rw [Addr.add_lit]
    exact hc j (bv l[j]) (by simp [hj])
theorem rvmay_any (a s : Nat) (p : Int) (ha : a < 18446744073709551616) (hs : s < 18446744073709551616) (w : World) : Calls Try.prog 30 #[.int .u64 (a : Int), .int .u64 (s : Int), .int .i64 p] w fun e w' => e = .returned (.bool (Vm.may a s p)) ∧ w = w' := by
  go_enter Try.func30, Try.ntmps30
  go_wp2_with (first | (at_builtin; refine wl_append rfl _ _ _ _ rfl _ _ rfl rfl ?_) | (at_make; refine wl_make rfl _ _ _ rfl _ _ rfl rfl ?_) | (at_mapUpdate; refine wl_mapUpdate rfl _ _ _ _ rfl _ _ _ rfl rfl rfl ?_) | (at_lookup; refine wl_lookup rfl _ _ _ _ rfl _ _ rfl rfl ?_) | (at_delete; refine wl_delete rfl _ _ _ _ rfl _ _ rfl rfl ?_) | (with_reducible refine wl_len rfl _ _ rfl _ rfl ?_) | (with_reducible refine wl_range rfl _ _ rfl _ rfl ?_) | (with_reducible refine wl_next rfl _ rfl _ rfl ?_) | (with_reducible refine wl_copy rfl _ _ _ _ rfl _ _ rfl rfl ?_) | (with_reducible refine wl_max rfl _ _ _ _ rfl _ _ rfl rfl ?_) | (with_reducible refine wl_min rfl _ _ _ _ rfl _ _ rfl rfl ?_))
  all_goals
    go_ret
    refine ⟨congrArg (fun b => Ending.returned (Value.bool b)) ?_, rfl⟩
    rw [Bool.eq_iff_iff]
    have ht : top = 4294967296 := rfl
    simp only [Vm.may, Bool.and_eq_true, decide_eq_true_eq, beq_iff_eq, Bool.false_eq_true, false_iff, true_iff]
    try simp only [beq_iff_eq, beq_eq_false_iff_ne, ne_eq] at *
    omega
set_option maxRecDepth 100000 in
theorem rvnoughts_any (w : World) : Calls Try.prog 36 #[] w fun e w' => e = .returned (.string ⟨noughts.toArray⟩) ∧ Keep No w w' := by
  go_enter Try.func36, Try.ntmps36
  go_wp2_with (first | (at_builtin; refine wl_append rfl _ _ _ _ rfl _ _ rfl rfl ?_) | (at_make; refine wl_make rfl _ _ _ rfl _ _ rfl rfl ?_) | (at_mapUpdate; refine wl_mapUpdate rfl _ _ _ _ rfl _ _ _ rfl rfl rfl ?_) | (at_lookup; refine wl_lookup rfl _ _ _ _ rfl _ _ rfl rfl ?_) | (at_delete; refine wl_delete rfl _ _ _ _ rfl _ _ rfl rfl ?_) | (with_reducible refine wl_len rfl _ _ rfl _ rfl ?_) | (with_reducible refine wl_range rfl _ _ rfl _ rfl ?_) | (with_reducible refine wl_next rfl _ rfl _ rfl ?_) | (with_reducible refine wl_copy rfl _ _ _ _ rfl _ _ rfl rfl ?_) | (with_reducible refine wl_max rfl _ _ _ _ rfl _ _ rfl rfl ?_) | (with_reducible refine wl_min rfl _ _ _ _ rfl _ _ rfl rfl ?_))
  refine rg_make 5 (.int .u8 0) 1 1 Try.underlying25 o_info (n := 256) (by decide) (by unfold maxLen; decide) ?_
  intro W1 hb1 hk1
  rw [madeCells_u8] at hb1
  have hrep := Bts.of_blk hb1 (by rw [List.length_replicate]; unfold maxLen; omega)
  rw [List.length_replicate] at hrep
  have hcv : (convert 25 9 (.slice (some ⟨w.heap.size, 0, none⟩) 256 256)).run Try.prog W1 = .ok (.string ⟨noughts.toArray⟩) W1 := conv_str hrep
  go_wp2_with (first | (at_builtin; refine wl_append rfl _ _ _ _ rfl _ _ rfl rfl ?_) | (at_make; refine wl_make rfl _ _ _ rfl _ _ rfl rfl ?_) | (at_mapUpdate; refine wl_mapUpdate rfl _ _ _ _ rfl _ _ _ rfl rfl rfl ?_) | (at_lookup; refine wl_lookup rfl _ _ _ _ rfl _ _ rfl rfl ?_) | (at_delete; refine wl_delete rfl _ _ _ _ rfl _ _ rfl rfl ?_) | (with_reducible refine wl_len rfl _ _ rfl _ rfl ?_) | (with_reducible refine wl_range rfl _ _ rfl _ rfl ?_) | (with_reducible refine wl_next rfl _ rfl _ rfl ?_) | (with_reducible refine wl_copy rfl _ _ _ _ rfl _ _ rfl rfl ?_) | (with_reducible refine wl_max rfl _ _ _ _ rfl _ _ rfl rfl ?_) | (with_reducible refine wl_min rfl _ _ _ _ rfl _ _ rfl rfl ?_))
  go_ret
  exact ⟨rfl, hk1⟩
section
variable {A : Nat → Prop} {w : World} {m : V} {v : Value}
set_option maxRecDepth 100000 in
set_option maxHeartbeats 2000000 in
theorem rvthere_any (addr size : Nat) (ha : addr < 18446744073709551616) (hs : size < 18446744073709551616) (hs0 : 0 < size) (hs1 : size ≤ 131328) (h : Fl A w 6 encS v m) (hl : m.length ≤ 1099511627776) (hpa : ∀ p ∈ m, p.addr < 18446744073709551616) :
    Calls Try.prog 48 #[.agg #[v], .int .u64 (addr : Int), .int .u64 (size : Int)] w fun e w' => e = .returned (.bool (decide (Vm.heldE m addr size = 0))) ∧ Keep No w w' := by
  obtain ⟨av, cv, rfl, _, _⟩ := h.shape
  have hq : (addr : Int).tdiv 256 = ((addr / 256 : Nat) : Int) := by rw [Int.tdiv_eq_ediv_of_nonneg (by omega)]; omega
  have hpo : ((addr / 256 : Nat) : Int) * 256 = ((pageOf addr : Nat) : Int) := by unfold pageOf; omega
  have hpb : ((pageOf addr : Nat) : Int) < 18446744073709551616 := by have := pageOf_le addr; omega
  have hth := there_take m addr size
  have hE : Vm.heldE m addr size = if addr > top ∨ size > top - addr ∨ size > 131328 then 40 else if there m addr size then 0 else 40 := rfl
  have ht : top = 4294967296 := rfl
  generalize Vm.heldE m addr size = er at *
  by_cases hout : addr > top ∨ size > top - addr ∨ size > 131328
  · rw [if_pos hout] at hE
    subst hE
    rw [ht] at hout
    have h3 : (addr : Int) > 4294967296 ∨ ((addr : Int) ≤ 4294967296 ∧ (size : Int) > 4294967296 - (addr : Int)) := by omega
    clear hout hth hq hpo hpb ht hpa hl hs1
    go_enter Try.func48, Try.ntmps48
    rcases h3 with h3 | ⟨h3, h4⟩
    all_goals
      go_wp2_with fail
      go_ret
      exact ⟨rfl, (Keep.refl _ _).alloc _⟩
  · rw [if_neg hout] at hE
    rw [ht] at hout
    have o1 : (addr : Int) ≤ 4294967296 := by omega
    have o3 : (size : Int) ≤ 4294967296 - (addr : Int) := by omega
    have o4 : (size : Int) ≤ 262144 := by omega
    have HT := Lib.hid hth
    have HE := Lib.hid hE
    clear hth hE hout
    have hps := pages_step addr size
    have hb : pageOf addr + 256 * pagesN addr size ≤ 4294967296 := by unfold pageOf pagesN; omega
    clear ht
    have HPS := Lib.hid hps
    have HB := Lib.hid hb
    clear hps hb
    generalize addr / 256 = q at *
    generalize hpg : pageOf addr = pa at *
    generalize hpn : pagesN addr size = pn at *
    have HS0 := Lib.hid hs0
    have HPG := Lib.hid hpg
    have hpc : pa < 18446744073709551616 := by omega
    clear hs1 hs0 hpg hpn hpb
    go_enter Try.func48, Try.ntmps48
    go_wp2_with fail
    have hkW : Keep No w (w.alloc (.cells #[.slice av m.length cv] 34)) := (Keep.refl _ _).alloc _
    have hBW : Blk (w.alloc (.cells #[.slice av m.length cv] 34)) w.heap.size #[.slice av m.length cv] 34 := Blk.new _ _ _
    have hzW : (w.alloc (.cells #[.slice av m.length cv] 34)).heap.size = w.heap.size + 1 := World.size_alloc _ _
    generalize w.alloc (.cells #[.slice av m.length cv] 34) = W at *
    have q0 : W.cell? ⟨w.heap.size, 0, none⟩ = some (.slice av m.length cv) := hBW.cell 0
    go_wp2_with fail
    go_loopw [7] (fun iv wr => ∃ k : Nat, iv = .int .u64 ((pa + 256 * k : Nat) : Int) ∧ k ≤ pn ∧ (∀ j, j < k → (pageAt m (pa + 256 * j)).isSome = true) ∧ Keep No W wr) (fun iv _ => pa + 256 * pn - (intOf iv).toNat)
    case atStart => exact ⟨0, by simp, Nat.zero_le _, fun j hj => absurd hj (Nat.not_lt_zero _), Keep.refl _ _⟩
    case round =>
      obtain ⟨k, rfl, hk, hall, hkk⟩ := hrel
      have hiff := HPS.out k HS0.out
      have hb := HB.out
      have p0 : wr.cell? ⟨w.heap.size, 0, none⟩ = some (.slice av m.length cv) := (hkk.cell (p := ⟨w.heap.size, 0, none⟩) hBW.lt fun h => h).trans q0
      have hbox : Blk wr w.heap.size #[.slice av m.length cv] 34 := hBW.keep hkk fun h => h
      rcases Nat.lt_or_ge k (pn) with hkl | hkl
      · have hlt := hiff.2 hkl
        have hpp := pageOf_pageOf addr k
        rw [HPG.out] at hpp
        have hle1 : pa + 256 * k + 256 ≤ 4294967296 := Nat.le_trans (by have := Nat.mul_le_mul_left 256 (Nat.succ_le_of_lt hkl); omega) hb
        have hltz : ((pa + 256 * k : Nat) : Int) < (addr : Int) + (size : Int) := by omega
        have hstp : pa + 256 * k + 256 = pa + 256 * (k + 1) := by omega
        have H1 := Lib.hid hstp
        have HA := Lib.hid hall
        have hfnd := rvfind_any (w := wr) (pa + 256 * k) (by omega) (h.no (hkW.trans' hkk)) hl hpa
        rw [hpp] at hfnd
        have hnx : (pageAt m (pa + 256 * k)).isSome = true → ∀ j, j < k + 1 → (pageAt m (pa + 256 * j)).isSome = true := fun h j hj => by
          rcases Nat.lt_or_ge j k with h2 | h2
          · exact hall j h2
          · obtain rfl : j = k := by omega
            exact h
        have hno : (pageAt m (pa + 256 * k)).isSome = false → there m addr size = false := fun h => by
          cases ht : there m addr size with
          | false => rfl
          | true => have := HT.out.1 ht k hkl; rw [h] at this; cases this
        have HN := Lib.hid hnx
        have HO := Lib.hid hno
        clear hall hiff hpp hstp hnx hno
        have hsm : (pageAt m (pa + 256 * k)).isSome = (pageAt m (pa + 256 * k)).isSome := rfl
        generalize hat : (pageAt m (pa + 256 * k)).isSome = at0 at *
        have hiff2 : at0 = true ↔ ∃ p ∈ m, p.addr = pa + 256 * k := by
          rw [← hat]; unfold pageAt; rw [List.find?_isSome]; simp
        clear hat hsm
        generalize pa + 256 * k = at_ at *
        go_wp2_with fail
        refine hfnd.mono ?_
        rintro e w2 ⟨r, rfl, hr, hk2⟩
        rcases hr with ⟨rfl, hnone⟩ | ⟨i, hi, rfl, hadr⟩
        · have e0 : at0 = false := by
            cases at0 with
            | false => rfl
            | true => obtain ⟨p, hp, e⟩ := hiff2.1 rfl; exact absurd e (hnone p hp)
          have e1 := HO.out e0
          go_wp2_with fail
          go_ret
          rw [HE.out, e1]
          exact ⟨rfl, (hkW.trans' hkk).trans' hk2⟩
        · have e0 : at0 = true := hiff2.2 ⟨_, List.getElem_mem hi, hadr⟩
          have hi0 : decide ((i : Int) < 0) = false := by simp
          go_wp2_with fail
          go_roundw
          case rel => exact ⟨k + 1, by rw [← H1.out]; go_num, hkl, HN.out e0, hkk.trans' hk2⟩
          case measure => have := H1.out; simp [intOf]; omega
      · obtain rfl : k = pn := Nat.le_antisymm hk hkl
        have hnlt : ¬ pa + 256 * k < addr + size := fun h => absurd (hiff.1 h) (Nat.lt_irrefl _)
        have e1 : there m addr size = true := HT.out.2 hall
        have hltz : ¬ ((pa + 256 * k : Nat) : Int) < (addr : Int) + (size : Int) := by omega
        clear hiff hall
        generalize pa + 256 * k = at_ at *
        go_wp2_with fail
        go_ret
        rw [HE.out, e1]
        exact ⟨rfl, hkW.trans' hkk⟩
end
end Go.Proofs.Ytaoillfofiehpaa
