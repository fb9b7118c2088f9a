/- The document's may, Noughts, there, Map (chapter 13). The document's Map (chapter 13). Bytes written to pages that may become dirty by it: plain lists. Put. The document's Poke (chapter 13). The document's example of chapter 13 comes out as it should (awake). Pages as the document's list, and the document's comparison (chapter 13). The document's Peek, number (chapter 13). No condition. -/
import Derived.Test.YthfekjnekaecaaaDoorRv1
import Derived.Test.YthfekjnekaecaaaDoorSortK
import Derived.Test.YthfekjnekaecaaaDoorCpuE
import Derived.Deep.MidRow
import Derived.Test.YthfekjnekaecaaaDoorVmG
import Derived.Lib.AppendStr
import Derived.Laws.StructEq
set_option linter.unusedVariables false
set_option linter.unusedSimpArgs false
namespace Go.Proofs.YthfekjnekaecaaaDoor
open Go.RowKit Go.Dm Go.Dm.Vm Go.Maps Go.Dm.Oc

theorem under_u8 : Tryd.prog.underlying 5 = some (.int .u8) := Tryd.underlying5
/-- string(b) -/
theorem conv_str {A : Nat → Prop} {w : World} {v : Value} {l : List UInt8} (h : Bts A w v l) : (convert 94 9 v).run Tryd.prog w = .ok (.string ⟨l.toArray⟩) w := by
  obtain ⟨_, a, cap, rfl, hn, _, h0, hr⟩ := h
  cases a with
  | none =>
    obtain rfl := h0 rfl
    obtain rfl : l = [] := List.eq_nil_of_length_eq_zero (by omega)
    exact run_convert_bytes_nil (P := Tryd.prog) (w := w) 94 5 Tryd.underlying94 under_u8 0 0 9 Tryd.underlying9
  | some a =>
    refine run_convert_bytes_back (P := Tryd.prog) w 94 9 5 a cap l Tryd.underlying94 under_u8 Tryd.underlying9 fun j hj => ?_
    obtain ⟨g, off, e2, _, _, hc⟩ := hr (by omega)
    cases e2
    rw [Addr.add_lit]
    exact hc j (bv l[j]) (by simp [hj])
section
variable {A : Nat → Prop} {w : World} {m : V} {v : Value}
set_option maxRecDepth 100000 in
set_option maxHeartbeats 2000000 in
theorem rvthere_any (addr size : Nat) (ha : addr < 18446744073709551616) (hs : size < 18446744073709551616) (hs0 : 0 < size) (hs1 : size ≤ 131328) (h : Fl A w 6 encS v m) (hl : m.length ≤ 1099511627776) (hpa : ∀ p ∈ m, p.addr < 18446744073709551616) :
    Calls Tryd.prog 60 #[.agg #[v], .int .u64 (addr : Int), .int .u64 (size : Int)] w fun e w' => e = .returned (.bool (decide (Vm.heldE m addr size = 0))) ∧ Keep No w w' := by
  obtain ⟨av, cv, rfl, _, _⟩ := h.shape
  have hq : (addr : Int).tdiv 256 = ((addr / 256 : Nat) : Int) := by rw [Int.tdiv_eq_ediv_of_nonneg (by omega)]; omega
  have hpo : ((addr / 256 : Nat) : Int) * 256 = ((pageOf addr : Nat) : Int) := by unfold pageOf; omega
  have hpb : ((pageOf addr : Nat) : Int) < 18446744073709551616 := by have := pageOf_le addr; omega
  have hth := there_take m addr size
  have hE : Vm.heldE m addr size = if addr > top ∨ size > top - addr ∨ size > 131328 then 40 else if there m addr size then 0 else 40 := rfl
  have ht : top = 4294967296 := rfl
  generalize Vm.heldE m addr size = er at *
  by_cases hout : addr > top ∨ size > top - addr ∨ size > 131328
  · rw [if_pos hout] at hE
    subst hE
    rw [ht] at hout
    have h3 : (addr : Int) > 4294967296 ∨ ((addr : Int) ≤ 4294967296 ∧ (size : Int) > 4294967296 - (addr : Int)) := by omega
    clear hout hth hq hpo hpb ht hpa hl hs1
    go_enter Tryd.func60, Tryd.ntmps60
    rcases h3 with h3 | ⟨h3, h4⟩
    all_goals
      go_wp2_with fail
      go_ret
      exact ⟨rfl, (Keep.refl _ _).alloc _⟩
  · rw [if_neg hout] at hE
    rw [ht] at hout
    have o1 : (addr : Int) ≤ 4294967296 := by omega
    have o3 : (size : Int) ≤ 4294967296 - (addr : Int) := by omega
    have o4 : (size : Int) ≤ 262144 := by omega
    have HT := Lib.hid hth
    have HE := Lib.hid hE
    clear hth hE hout
    have hps := pages_step addr size
    have hb : pageOf addr + 256 * pagesN addr size ≤ 4294967296 := by unfold pageOf pagesN; omega
    clear ht
    have HPS := Lib.hid hps
    have HB := Lib.hid hb
    clear hps hb
    generalize addr / 256 = q at *
    generalize hpg : pageOf addr = pa at *
    generalize hpn : pagesN addr size = pn at *
    have HS0 := Lib.hid hs0
    have HPG := Lib.hid hpg
    have hpc : pa < 18446744073709551616 := by omega
    clear hs1 hs0 hpg hpn hpb
    go_enter Tryd.func60, Tryd.ntmps60
    go_wp2_with fail
    have hkW : Keep No w (w.alloc (.cells #[.slice av m.length cv] 59)) := (Keep.refl _ _).alloc _
    have hBW : Blk (w.alloc (.cells #[.slice av m.length cv] 59)) w.heap.size #[.slice av m.length cv] 59 := Blk.new _ _ _
    have hzW : (w.alloc (.cells #[.slice av m.length cv] 59)).heap.size = w.heap.size + 1 := World.size_alloc _ _
    generalize w.alloc (.cells #[.slice av m.length cv] 59) = W at *
    have q0 : W.cell? ⟨w.heap.size, 0, none⟩ = some (.slice av m.length cv) := hBW.cell 0
    go_wp2_with fail
    go_loopw [7] (fun iv wr => ∃ k : Nat, iv = .int .u64 ((pa + 256 * k : Nat) : Int) ∧ k ≤ pn ∧ (∀ j, j < k → (pageAt m (pa + 256 * j)).isSome = true) ∧ Keep No W wr) (fun iv _ => pa + 256 * pn - (intOf iv).toNat)
    case atStart => exact ⟨0, by simp, Nat.zero_le _, fun j hj => absurd hj (Nat.not_lt_zero _), Keep.refl _ _⟩
    case round =>
      obtain ⟨k, rfl, hk, hall, hkk⟩ := hrel
      have hiff := HPS.out k HS0.out
      have hb := HB.out
      have p0 : wr.cell? ⟨w.heap.size, 0, none⟩ = some (.slice av m.length cv) := (hkk.cell (p := ⟨w.heap.size, 0, none⟩) hBW.lt fun h => h).trans q0
      have hbox : Blk wr w.heap.size #[.slice av m.length cv] 59 := hBW.keep hkk fun h => h
      rcases Nat.lt_or_ge k (pn) with hkl | hkl
      · have hlt := hiff.2 hkl
        have hpp := pageOf_pageOf addr k
        rw [HPG.out] at hpp
        have hle1 : pa + 256 * k + 256 ≤ 4294967296 := Nat.le_trans (by have := Nat.mul_le_mul_left 256 (Nat.succ_le_of_lt hkl); omega) hb
        have hltz : ((pa + 256 * k : Nat) : Int) < (addr : Int) + (size : Int) := by omega
        have hstp : pa + 256 * k + 256 = pa + 256 * (k + 1) := by omega
        have H1 := Lib.hid hstp
        have HA := Lib.hid hall
        have hfnd := rvfind_any (w := wr) (pa + 256 * k) (by omega) (h.no (hkW.trans' hkk)) hl hpa
        rw [hpp] at hfnd
        have hnx : (pageAt m (pa + 256 * k)).isSome = true → ∀ j, j < k + 1 → (pageAt m (pa + 256 * j)).isSome = true := fun h j hj => by
          rcases Nat.lt_or_ge j k with h2 | h2
          · exact hall j h2
          · obtain rfl : j = k := by omega
            exact h
        have hno : (pageAt m (pa + 256 * k)).isSome = false → there m addr size = false := fun h => by
          cases ht : there m addr size with
          | false => rfl
          | true => have := HT.out.1 ht k hkl; rw [h] at this; cases this
        have HN := Lib.hid hnx
        have HO := Lib.hid hno
        clear hall hiff hpp hstp hnx hno
        have hsm : (pageAt m (pa + 256 * k)).isSome = (pageAt m (pa + 256 * k)).isSome := rfl
        generalize hat : (pageAt m (pa + 256 * k)).isSome = at0 at *
        have hiff2 : at0 = true ↔ ∃ p ∈ m, p.addr = pa + 256 * k := by
          rw [← hat]; unfold pageAt; rw [List.find?_isSome]; simp
        clear hat hsm
        generalize pa + 256 * k = at_ at *
        go_wp2_with fail
        refine hfnd.mono ?_
        rintro e w2 ⟨r, rfl, hr, hk2⟩
        rcases hr with ⟨rfl, hnone⟩ | ⟨i, hi, rfl, hadr⟩
        · have e0 : at0 = false := by
            cases at0 with
            | false => rfl
            | true => obtain ⟨p, hp, e⟩ := hiff2.1 rfl; exact absurd e (hnone p hp)
          have e1 := HO.out e0
          go_wp2_with fail
          go_ret
          rw [HE.out, e1]
          exact ⟨rfl, (hkW.trans' hkk).trans' hk2⟩
        · have e0 : at0 = true := hiff2.2 ⟨_, List.getElem_mem hi, hadr⟩
          have hi0 : decide ((i : Int) < 0) = false := by simp
          go_wp2_with fail
          go_roundw
          case rel => exact ⟨k + 1, by rw [← H1.out]; go_num, hkl, HN.out e0, hkk.trans' hk2⟩
          case measure => have := H1.out; simp [intOf]; omega
      · obtain rfl : k = pn := Nat.le_antisymm hk hkl
        have hnlt : ¬ pa + 256 * k < addr + size := fun h => absurd (hiff.1 h) (Nat.lt_irrefl _)
        have e1 : there m addr size = true := HT.out.2 hall
        have hltz : ¬ ((pa + 256 * k : Nat) : Int) < (addr : Int) + (size : Int) := by omega
        clear hiff hall
        generalize pa + 256 * k = at_ at *
        go_wp2_with fail
        go_ret
        rw [HE.out, e1]
        exact ⟨rfl, hkW.trans' hkk⟩
end
end Go.Proofs.YthfekjnekaecaaaDoor
namespace Go.Proofs.YthfekjnekaecaaaDoor
open Go.RowKit Go.Dm Go.Dm.Vm Go.Maps Go.Dm.Oc

end Go.Proofs.YthfekjnekaecaaaDoor
namespace Go.Dm.Vm
open Go Go.Proofs.YthfekjnekaecaaaDoor Go.Dm.Oc

def putD (d : Bool) (m : V) (a : Nat) (c : UInt8) : V := upd m (pageOf a) (fun p => { p with b := p.b.set (a % 256) c, dirty := p.dirty || d })
def writeD (d : Bool) : V → Nat → List UInt8 → V
  | m, _, [] => m
  | m, a, c :: r => writeD d (putD d m a c) (a + 1) r
theorem upd_congr {m : V} {a : Nat} {f g : Pg → Pg} (h : ∀ p ∈ m, p.addr = a → f p = g p) : upd m a f = upd m a g := by
  unfold upd
  apply List.map_congr_left
  intro p hp
  by_cases e : p.addr = a
  · rw [if_pos e, if_pos e]; exact h p hp e
  · rw [if_neg e, if_neg e]
theorem putD_false (m : V) (a : Nat) (c : UInt8) : putD false m a c = setB m a c := by
  rw [setB_upd]
  exact upd_congr fun p _ _ => by simp
theorem writeD_false (m : V) (a : Nat) (c : List UInt8) : writeD false m a c = writeB m a c := by
  induction c generalizing m a with
  | nil => rfl
  | cons x r ih =>
    show writeD false (putD false m a x) (a + 1) r = writeB (setB m a x) (a + 1) r
    rw [putD_false, ih]
theorem writeD_append (d : Bool) (m : V) (a : Nat) (b c : List UInt8) : writeD d m a (b ++ c) = writeD d (writeD d m a b) (a + b.length) c := by
  induction b generalizing m a with
  | nil => rfl
  | cons x r ih =>
    show writeD d (putD d m a x) (a + 1) (r ++ c) = writeD d (writeD d (putD d m a x) (a + 1) r) (a + (r.length + 1)) c
    rw [ih, show a + 1 + r.length = a + (r.length + 1) by omega]
theorem writeD_page (d : Bool) (m : V) (a : Nat) (c : List UInt8) (h : a % 256 + c.length ≤ 256) (hc : c ≠ []) : writeD d m a c = upd m (pageOf a) (fun p => { p with b := setR p.b (a % 256) c, dirty := p.dirty || d }) := by
  induction c generalizing m a with
  | nil => exact absurd rfl hc
  | cons x r ih =>
    rw [List.length_cons] at h
    unfold writeD
    cases r with
    | nil => rfl
    | cons y t =>
      rw [List.length_cons] at h
      have e1 : pageOf (a + 1) = pageOf a := by unfold pageOf; omega
      have e2 : (a + 1) % 256 = a % 256 + 1 := by omega
      rw [ih _ (a + 1) (by rw [e2, List.length_cons]; omega) (by simp), e1, e2]
      unfold putD
      rw [upd_upd]
      · exact upd_congr fun p _ _ => by simp [setR]
      · intro p; rfl
theorem putD_addr (d : Bool) (m : V) (a : Nat) (c : UInt8) : (putD d m a c).map (·.addr) = m.map (·.addr) := by
  unfold putD upd
  rw [List.map_map]
  apply List.map_congr_left
  intro p _
  simp only [Function.comp]
  split <;> rfl
theorem writeD_addr (d : Bool) (m : V) (a : Nat) (c : List UInt8) : (writeD d m a c).map (·.addr) = m.map (·.addr) := by
  induction c generalizing m a with
  | nil => rfl
  | cons x r ih => unfold writeD; rw [ih, putD_addr]
theorem writeD_len (d : Bool) (m : V) (a : Nat) (c : List UInt8) : (writeD d m a c).length = m.length := by
  have := congrArg List.length (writeD_addr d m a c)
  simpa using this
theorem writeD_ok (d : Bool) {m : V} (h : Ok m) (a : Nat) (c : List UInt8) : Ok (writeD d m a c) := by
  induction c generalizing m a with
  | nil => exact h
  | cons x r ih =>
    unfold writeD
    refine ih ?_ _
    unfold putD
    refine upd_ok (g := fun p => { p with b := p.b.set (a % 256) x, dirty := p.dirty || d }) h (fun _ => rfl) (fun p hp => ⟨hp.al, hp.lt, hp.pr, ?_, hp.ol, hp.fl⟩) _
    show (p.b.set _ _).length = 256
    rw [List.length_set]; exact hp.bl
theorem pageAt_addr {m k : V} (h : k.map (·.addr) = m.map (·.addr)) (a : Nat) : (pageAt k a).isSome = (pageAt m a).isSome := by
  unfold pageAt
  rw [Bool.eq_iff_iff, List.find?_isSome, List.find?_isSome]
  have : (∃ x ∈ k, (x.addr == a) = true) ↔ ∃ y ∈ k.map (·.addr), (y == a) = true := by simp
  rw [this, h]
  simp
theorem idx_unique {m : V} (hs : m.Pairwise (fun p q => p.addr < q.addr)) {i j : Nat} (hi : i < m.length) (hj : j < m.length) (h : m[i].addr = m[j].addr) : i = j := by
  rcases Nat.lt_trichotomy i j with hl | e | hl
  · have := List.pairwise_iff_getElem.1 hs i j hi hj hl; omega
  · exact e
  · have := List.pairwise_iff_getElem.1 hs j i hj hi hl; omega
/-- one page's part of the bytes from a place on, as the document's Poke puts it -/
theorem withP_chunk (d : Bool) {m k : V} (h : Ok m) (addr at_ n : Nat) (b : List UInt8) (hk : k = writeD d m addr (b.take at_)) {p : Pg} (hp : p ∈ k) (ha : p.addr = pageOf (addr + at_)) (hn : 0 < n) (hb : at_ + n ≤ b.length) (h2 : (addr + at_) % 256 + n ≤ 256) :
    withP { p with b := setR p.b ((addr + at_) % 256) ((b.drop at_).take n), dirty := p.dirty || d } k false = writeD d m addr (b.take (at_ + n)) := by
  have hok : Ok k := by rw [hk]; exact writeD_ok d h addr (b.take at_)
  have e1 : b.take (at_ + n) = b.take at_ ++ (b.drop at_).take n := by rw [List.take_add]
  have e2 : ((b.drop at_).take n).length = n := by rw [List.length_take, List.length_drop]; omega
  have e3 : (b.take at_).length = at_ := by rw [List.length_take]; omega
  rw [e1, writeD_append, e3, writeD_page d _ _ _ (by rw [e2]; exact h2) (fun e => by rw [e] at e2; simp at e2; omega), ← hk, withP_upd (p := { p with b := setR p.b ((addr + at_) % 256) ((b.drop at_).take n), dirty := p.dirty || d }) hok.srt ⟨p, hp, rfl⟩]
  show upd k p.addr _ = _
  rw [ha]
  refine upd_congr fun q hq e => ?_
  have h1 := get_of_mem hok.srt hp
  have h2 := get_of_mem hok.srt hq
  rw [ha] at h1
  rw [e, h1] at h2
  cases h2
  rw [e]
end Go.Dm.Vm
namespace Go.Dm.Vm
open Go
/-- a page as it is handed in -/
structure PgR where
  addr : Nat
  prot : Int
  dirty : Bool
  file : List UInt8
  off : Nat
  b : List UInt8
def toPg (r : PgR) : Pg := ⟨r.addr, r.prot.toNat, r.dirty, r.file, r.off, r.b⟩
def lowR (p : Option PgR) (r : PgR) : Bool := match p with | some q => decide (r.addr ≤ q.addr) | none => false
def badR (p : Option PgR) (r : PgR) : Bool := lowR p r || !Vm.may r.addr 256 r.prot || !(r.b.length == 256) || (r.file.isEmpty && !(r.off == 0))
def putE : Option PgR → List PgR → Nat
  | _, [] => 0
  | p, r :: t => if badR p r then 11 else putE (some r) t
theorem putE_at (l : List PgR) (p : Option PgR) : putE p l = 0 ∨ putE p l = 11 := by
  induction l generalizing p with
  | nil => exact .inl rfl
  | cons r t ih =>
    unfold putE
    split
    · exact .inr rfl
    · exact ih _
/-- all ahead of the i-th are good -/
def okTo (l : List PgR) (i : Nat) : Prop := ∀ j (hj : j < l.length), j < i → badR (if j = 0 then none else l[j - 1]?) l[j] = false
theorem putE_of (l : List PgR) : ∀ (p : Option PgR), (∀ j (hj : j < l.length), badR (if j = 0 then p else l[j - 1]?) l[j] = false) → putE p l = 0 := by
  induction l with
  | nil => intro p h; rfl
  | cons r t ih =>
    intro p h
    unfold putE
    have h0 := h 0 (by simp)
    simp only [if_true, List.getElem_cons_zero] at h0
    rw [if_neg (by rw [h0]; decide)]
    refine ih (some r) fun j hj => ?_
    have h1 := h (j + 1) (by simpa using hj)
    rw [if_neg (by omega), List.getElem_cons_succ, Nat.add_sub_cancel] at h1
    by_cases hj0 : j = 0
    · subst hj0
      simpa using h1
    · rw [if_neg hj0]
      obtain ⟨k, rfl⟩ : ∃ k, j = k + 1 := ⟨j - 1, by omega⟩
      simpa using h1
theorem putE_bad (l : List PgR) : ∀ (p : Option PgR) (i : Nat) (hi : i < l.length), badR (if i = 0 then p else l[i - 1]?) l[i] = true → putE p l = 11 := by
  induction l with
  | nil => intro p i hi; simp at hi
  | cons r t ih =>
    intro p i hi h
    unfold putE
    split
    · rfl
    · rename_i hb
      cases i with
      | zero => simp at h; exact absurd h hb
      | succ i =>
        refine ih (some r) i (by simpa using hi) ?_
        rw [if_neg (by omega), List.getElem_cons_succ, Nat.add_sub_cancel] at h
        by_cases hi0 : i = 0
        · subst hi0
          simpa using h
        · rw [if_neg hi0]
          obtain ⟨k, rfl⟩ : ∃ k, i = k + 1 := ⟨i - 1, by omega⟩
          simpa using h
theorem good_parts {p : Option PgR} {r : PgR} (h : badR p r = false) : lowR p r = false ∧ Vm.may r.addr 256 r.prot = true ∧ r.b.length = 256 ∧ (r.file = [] → r.off = 0) := by
  unfold badR at h
  simp only [Bool.or_eq_false_iff, Bool.and_eq_false_iff, Bool.not_eq_false'] at h
  refine ⟨h.1.1.1, h.1.1.2, by simpa using h.1.2, fun e => ?_⟩
  rcases h.2 with h2 | h2
  · rw [e] at h2; simp at h2
  · simpa using h2
end Go.Dm.Vm
namespace Go.Proofs.YthfekjnekaecaaaDoor
open Go.RowKit Go.Dm Go.Dm.Vm Go.Maps Go.Dm.Oc Go.WideMaps Go.WideElems

def encR (x : PgR × Value) : List Value := [.int .u64 (x.1.addr : Int), .int .i64 x.1.prot, .bool x.1.dirty, .string ⟨x.1.file.toArray⟩, .int .u64 (x.1.off : Int), x.2]
theorem encR_len (x : PgR × Value) : (encR x).length = 6 := rfl
theorem wo_mapUpdate {P : Program} {o : Oper} {a : Act} {w : World} {Q : Exit → Act → World → Prop} {K : Act → World → Prop} (m x v : Operand) (t : TypeId) (ho : o.op = Op.mapUpdate t m x v) (v1 v2 v3 : Value) (h1 : a.eval m = v1) (h2 : a.eval x = v2) (h3 : a.eval v = v3)
    (h : UpdateGoal P t v1 v2 v3 w fun w' => K (a.put o.dst undef) w') : o.wp P a w K Q := by
  obtain ⟨_, w', hr, hk⟩ := h
  unfold Oper.wp
  simp [execOp, ho, h1, h2, h3, hr, Result.andThen]
  exact hk
theorem insP_last {p : Pg} {m : V} (h : ∀ q ∈ m, q.addr < p.addr) : insP p m = m ++ [p] := by
  induction m with
  | nil => rfl
  | cons q r ih =>
    unfold insP
    rw [if_neg (by have := h q (List.mem_cons_self ..); omega), ih fun x hx => h x (List.mem_cons_of_mem _ hx)]
    rfl
theorem run_ldo {P : Program} {a : Act} {o : Oper} {w' : World} (ty : TypeId) (x : Operand) (ho : o.op = .load ty x) (b off : Nat) (hx : a.eval x = .pointer (some ⟨b, off, none⟩)) {v : Value} (h : (loadVar ty ⟨b, off, none⟩).run P w' = .ok v w') : (execOp a.eval o).run P w' = .ok (.value v) w' := by
  unfold execOp
  simp only [ho, hx, Instr.loadAt, Instr.sureAddr, Sem.run_bind, Sem.run_pure, Result.andThen_ok, h]
theorem run_bdo {P : Program} {a : Act} {o : Oper} {w' : World} (ty : TypeId) (ps : Array (Nat × Operand)) (ho : o.op = .build ty ps) {v : Value} {qs : Array (Nat × Value)} (hq : (ps.map fun x => (x.1, a.eval x.2)) = qs) (h : (Instr.build ty qs).run P w' = .ok v w') : (execOp a.eval o).run P w' = .ok (.value v) w' := by
  unfold execOp
  simp only [ho, Sem.run_bind, Sem.run_pure, Result.andThen_ok, hq, h]
theorem fill_one (place : Nat → Option (Nat × Nat)) (cs : Array Value) (i off : Nat) (v : Value) (rest : List (Nat × Value)) (hp : place i = some (off, 1)) (hv : v.cells = #[v]) (hl : off + 1 ≤ cs.size) : Instr.fill place cs ((i, v) :: rest) = Instr.fill place (cs.setIfInBounds off v) rest := by
  rw [Instr.fill, hp]
  simp only [hv]
  rw [if_neg (by simp; omega)]
  rfl
theorem fill_agg (place : Nat → Option (Nat × Nat)) (cs : Array Value) (i off n : Nat) (B : Array Value) (hp : place i = some (off, n)) (hv : B.size = n) (hl : off + n ≤ cs.size) : Instr.fill place cs [(i, .agg B)] = some (B.zipIdx.foldl (fun cs (x : Value × Nat) => cs.setIfInBounds (off + x.2) x.1) cs) := by
  rw [Instr.fill, hp]
  have hc : (Value.agg B).cells = B := rfl
  simp only [hc]
  rw [if_neg (by simp; omega)]
  rfl
theorem foldl_put (off : Nat) (l : List Value) : ∀ (k : Nat) (cs : Array Value), off + k + l.length ≤ cs.size → ((l.zipIdx k).foldl (fun cs (x : Value × Nat) => cs.setIfInBounds (off + x.2) x.1) cs).toList = cs.toList.take (off + k) ++ l ++ cs.toList.drop (off + k + l.length) := by
  induction l with
  | nil => intro k cs h; simp
  | cons c r ih =>
    intro k cs h
    rw [List.length_cons] at h
    rw [List.zipIdx_cons, List.foldl_cons, ih (k + 1) _ (by rw [Array.size_setIfInBounds]; omega), Array.toList_setIfInBounds]
    have hlt : off + k < cs.toList.length := by rw [Array.length_toList]; omega
    rw [show off + (k + 1) = off + k + 1 by omega, List.take_succ_eq_append_getElem (by rw [List.length_set]; exact hlt), List.getElem_set_self, List.take_set_of_le (Nat.le_refl _), List.drop_set_of_lt (by omega), List.length_cons]
    simp only [List.append_assoc, List.cons_append, List.nil_append]
    rw [show off + k + 1 + r.length = off + k + (r.length + 1) by omega]
theorem built_eq (parts : List (Nat × Value)) : Tryd.prog.built 125 parts = Instr.fill (fun i => (#[(0, 1), (1, 1), (2, 1), (3, 1), (4, 256)] : Array (Nat × Nat))[i]?) Tryd.zeroCells125 parts := by kernel_rfl
theorem built_page (p : Int) (dt : Bool) (fl : ByteArray) (o : Nat) (B : Array Value) (hB : B.size = 256) :
    Tryd.prog.built 125 [(0, .int .i64 p), (1, .bool dt), (2, .string fl), (3, .int .u64 (o : Int)), (4, .agg B)] = some ((Value.int .i64 p :: Value.bool dt :: Value.string fl :: Value.int .u64 (o : Int) :: B.toList).toArray) := by
  rw [built_eq]
  have hz : Tryd.zeroCells125.size = 260 := by kernel_rfl
  generalize Tryd.zeroCells125 = Z at *
  rw [fill_one _ _ 0 0 _ _ rfl rfl (by omega), fill_one _ _ 1 1 _ _ rfl rfl (by rw [Array.size_setIfInBounds]; omega), fill_one _ _ 2 2 _ _ rfl rfl (by rw [Array.size_setIfInBounds, Array.size_setIfInBounds]; omega), fill_one _ _ 3 3 _ _ rfl rfl (by rw [Array.size_setIfInBounds, Array.size_setIfInBounds, Array.size_setIfInBounds]; omega)]
  have hsz : ((((Z.setIfInBounds 0 (.int .i64 p)).setIfInBounds 1 (.bool dt)).setIfInBounds 2 (.string fl)).setIfInBounds 3 (.int .u64 (o : Int))).size = 260 := by simpa using hz
  have htk : ((((Z.setIfInBounds 0 (.int .i64 p)).setIfInBounds 1 (.bool dt)).setIfInBounds 2 (.string fl)).setIfInBounds 3 (.int .u64 (o : Int))).toList.take 4 = [.int .i64 p, .bool dt, .string fl, .int .u64 (o : Int)] := by
    obtain ⟨l⟩ := Z
    have hl : l.length = 260 := by simpa using hz
    match l, hl with
    | _ :: _ :: _ :: _ :: _, _ => simp
  generalize (((Z.setIfInBounds 0 (.int .i64 p)).setIfInBounds 1 (.bool dt)).setIfInBounds 2 (.string fl)).setIfInBounds 3 (.int .u64 (o : Int)) = Z4 at *
  rw [fill_agg _ _ 4 4 256 B rfl hB (by omega)]
  congr 1
  apply Array.toList_inj.1
  have h := foldl_put 4 B.toList 0 Z4 (by rw [Array.length_toList]; omega)
  rw [htk, Array.length_toList, List.drop_of_length_le (by rw [Array.length_toList]; omega)] at h
  simp only [List.append_nil] at h
  rw [← Array.foldl_toList, Array.toList_zipIdx, h]
  rfl
section
variable {A : Nat → Prop} {w : World} {d mb x y z u : Nat} {f : Nat → Nat} {m : V}
end
end Go.Proofs.YthfekjnekaecaaaDoor
namespace Go.Proofs.YthfekjnekaecaaaDoor
open Go.RowKit Go.Dm Go.Dm.Vm Go.Maps Go.Dm.Oc Go.Lib

theorem rg_catstr {w : World} {t u ty : TypeId} (ht : Tryd.prog.underlying t = some (.slice 5)) (hu : Tryd.prog.underlying u = some .string) (base : Nat) (l : List UInt8) (hl : l.length ≤ 1000) (hb : base ≤ w.heap.size) {K : Value → World → Prop}
    (h : ∀ v' w', w'.ownsRow base 5 1 v' l.length (l.map bv) → Keep No w w' → K v' w') : AppendGoal Tryd.prog t u ty (.slice none 0 0) (.string ⟨l.toArray⟩) w K := by
  have hi := @o_info
  obtain ⟨i, hi1, hi2⟩ := Option.map_eq_some_iff.1 hi
  simp only [Prod.mk.injEq] at hi2
  obtain ⟨e1, e2, e3⟩ := hi2
  have hsz : (⟨l.toArray⟩ : ByteArray).size = l.length := by show l.toArray.size = _; rw [List.size_toArray]
  obtain ⟨v', w', hr, ho, hg, _⟩ := run_append_own_string (P := Tryd.prog) (w := w) base t u ty 5 i ht hu hi1 e1 e2 e3 (.slice none 0 0) 0 [] (World.ownsRow_nil _ _ _ _) ⟨l.toArray⟩ (by rw [hsz]; unfold maxLen; omega) (by rw [hsz]; omega) hb
  rw [hsz, Nat.zero_add] at ho
  refine .mk hr (h v' w' ?_ ⟨hg.1, hg.2, hg.3, hg.4, fun k hk _ => hg.5 k hk (by simp [Value.ownBlock])⟩)
  exact ho
section
variable {A B : Nat → Prop} {w : World} {m : V} {v vb : Value}
end
end Go.Proofs.YthfekjnekaecaaaDoor
namespace Go.Dm.Vm
open Go Go.Proofs.YthfekjnekaecaaaDoor
def awM2 : V := mapV [] 256 512 7 [102] 0
def awM3 : V := storeV awM2 300 8 7
theorem aw_map : mapE [] 256 512 7 = 0 := by decide
theorem aw_store : numE awM2 300 8 2 = 0 := by kernel_rfl
theorem aw_loadE : loadE awM3 300 8 = 0 := by kernel_rfl
theorem aw_loadX : loadX awM3 300 8 = 7 := by kernel_rfl
theorem aw_len : awM3.length = 2 := by kernel_rfl
theorem aw_fetch : fetchE awM3 256 = 0 := by kernel_rfl
theorem aw_dirty : awM3.map (fun p => (p.dirty, p.off)) = [(true, 0), (false, 256)] := by kernel_rfl
theorem aw_prot : protE awM3 256 256 4 = 0 := by kernel_rfl
theorem aw_unmap : unmapE (protV awM3 256 256 4) 256 256 = 0 := by kernel_rfl
def rawR (p : Pg) : PgR := ⟨p.addr, p.prot, p.dirty, p.file, p.off, p.b⟩
theorem aw_put : putE none (awM3.map rawR) = 0 := by kernel_rfl
theorem toPg_raw (m : V) : (m.map rawR).map toPg = m := by
  rw [List.map_map]
  conv => rhs; rw [← List.map_id m]
  apply List.map_congr_left
  intro p _
  simp [toPg, rawR]
end Go.Dm.Vm
namespace Go.Proofs.YthfekjnekaecaaaDoor
open Go.RowKit Go.Dm Go.Dm.Vm Go.Maps Go.Dm.Oc Go.WideMaps Go.WideElems

def rawP (g : Nat → Nat) (p : Pg) : PgR × Value := (rawR p, .slice (some ⟨g p.addr, 4, none⟩) 256 256)
section
variable {A : Nat → Prop} {w : World} {base : Nat} {m : V}
theorem pgs_in {v : Value} {g : Nat → Nat} (h : PgsV base w v m g) (ok : ∀ p ∈ m, PgOk p) :
    Fl (fun k => base ≤ k ∧ k < w.heap.size) w 6 encR v (m.map (rawP g)) ∧ (∀ x ∈ m.map (rawP g), Bts (fun k => base ≤ k ∧ k < w.heap.size) w x.2 x.1.b) ∧ (∀ x ∈ m.map (rawP g), x.1.addr < 18446744073709551616 ∧ x.1.off < 18446744073709551616 ∧ x.1.file.length ≤ maxLen ∧ x.1.b.length ≤ 1099511627776) ∧ (m.map (rawP g)).map (·.1) = m.map rawR := by
  refine ⟨?_, fun x hx => ?_, fun x hx => ?_, by rw [List.map_map]; rfl⟩
  · have h1 := h.row.fl
    unfold Fl at h1 ⊢
    rw [List.length_map, List.flatMap_map]
    exact h1
  · obtain ⟨p, hp, rfl⟩ := List.mem_map.1 hx
    have hb := (h.pg p hp).2
    have hl := (ok p hp).bl
    show Sl _ w 1 (.slice (some ⟨g p.addr, 4, none⟩) 256 256) p.b.length (p.b.map bv)
    rw [hl]
    refine Sl.mk (by rw [List.length_map, hl]) ⟨(h.pg p hp).1, hb.lt⟩ hb.lt (Nat.le_refl _) (by unfold maxLen; omega) fun j u hu => ?_
    rw [hb.cell, pgC_byte, ← hu, List.getElem?_map]
  · obtain ⟨p, hp, rfl⟩ := List.mem_map.1 hx
    have h1 := ok p hp
    have := h1.lt
    unfold top at this
    exact ⟨by show p.addr < _; omega, h1.ol, h1.fl, by show p.b.length ≤ _; rw [h1.bl]; omega⟩
theorem PgsV.cells {v : Value} {g : Nat → Nat} (h : PgsV base w v m g) {i : Nat} (hi : i < m.length) : ∃ g0 cap, v = .slice (some ⟨g0, 0, none⟩) m.length cap ∧ ∀ r u, (encP g m[i])[r]? = some u → w.cell? ⟨g0, i * 6 + r, none⟩ = some u := by
  obtain ⟨g0, off, cap, e, _, _, _, _, hc⟩ := h.row.fl.at (encP_len g) hi
  rcases h.row.2 with ⟨e2, _⟩ | ⟨g1, cap1, cur, e2, _⟩
  · rw [e] at e2; cases e2
  · rw [e] at e2
    cases e2
    exact ⟨g0, cap, e, fun r u hu => by have := hc r u hu; rwa [Nat.zero_add] at this⟩
end
end Go.Proofs.YthfekjnekaecaaaDoor
namespace Go.Proofs.YthfekjnekaecaaaDoor
open Go.RowKit Go.Dm Go.Dm.Vm Go.Maps Go.Dm.Oc

/-- pages of any numbers, as the document has them -/
def encT (r : PgR) : List Value := [.int .u64 (r.addr : Int), .int .i64 r.prot, .bool r.dirty, .string ⟨r.file.toArray⟩, .int .u64 (r.off : Int), .string ⟨r.b.toArray⟩]
theorem encT_len (p : PgR) : (encT p).length = 6 := rfl
theorem encT_one (p : PgR) : ∀ u ∈ encT p, u.oneCell' = true := by
  intro u hu
  simp only [encT, List.mem_cons, List.not_mem_nil, or_false] at hu
  rcases hu with rfl | rfl | rfl | rfl | rfl | rfl <;> rfl
theorem encT_raw (p : Pg) : encT (rawR p) = encS p := rfl
set_option maxRecDepth 100000 in
theorem neq_same (a b e : Int) (c : Bool) (d f : ByteArray) (w : World) : (binOp .neq 103 (.agg #[.int .u64 a, .int .i64 b, .bool c, .string d, .int .u64 e, .string f]) (.agg #[.int .u64 a, .int .i64 b, .bool c, .string d, .int .u64 e, .string f])).run Tryd.prog w = .ok (.bool false) w := by
  go_simp
section
variable {A B : Nat → Prop} {w : World} {v v2 : Value} {m : V}
end
end Go.Proofs.YthfekjnekaecaaaDoor
namespace Go.Proofs.YthfekjnekaecaaaDoor
open Go.RowKit Go.Dm Go.Dm.Vm Go.Maps Go.Dm.Oc

section
variable {A : Nat → Prop} {w : World} {v : Value} {m : V}
theorem ok_small {m : V} (h : Ok m) : ∀ p ∈ m, p.addr < 18446744073709551616 := fun p hp => by have := (h.pg p hp).lt; unfold top at this; omega
theorem rvfind_at (a : Nat) (ha : a < 18446744073709551616) (h : Fl A w 6 encS v m) (hok : Ok m) {i : Nat} (hi : i < m.length) (hip : m[i].addr = pageOf a) :
    Calls Tryd.prog 61 #[.agg #[v], .int .u64 (a : Int)] w fun e w' => e = .returned (.int .i64 (i : Int)) ∧ Keep No w w' := by
  refine (rvfind_any a ha h (by have := hok.len; omega) (ok_small hok)).mono ?_
  rintro e w' ⟨r, rfl, hr, hk⟩
  rcases hr with ⟨rfl, hno⟩ | ⟨i', hi', rfl, hadr⟩
  · exact absurd hip (hno _ (List.getElem_mem hi))
  · obtain rfl := idx_unique hok.srt hi hi' (by rw [hip, hadr])
    exact ⟨rfl, hk⟩
theorem page_idx {m : V} {a : Nat} (h : ∃ p, pageAt m (pageOf a) = some p) : ∃ (i : Nat) (hi : i < m.length), m[i].addr = pageOf a ∧ pageAt m (pageOf a) = some m[i] := by
  obtain ⟨p, hp⟩ := h
  obtain ⟨hpm, hpa⟩ := get_mem hp
  obtain ⟨i, hi, rfl⟩ := List.getElem_of_mem hpm
  exact ⟨i, hi, hpa, hp⟩
theorem str_index (l : List UInt8) (k : Nat) (hk : k < l.length) (w : World) : (Instr.index 9 (.string ⟨l.toArray⟩) (.int .u64 (k : Int))).run Tryd.prog w = .ok (.int .u8 ((l.getD k 0).toNat : Int)) w := by
  rw [run_index_string _ _ _ _ _ Tryd.underlying9]
  have h1 : (0 : Int) ≤ (k : Int) ∧ (k : Int) < ((⟨l.toArray⟩ : ByteArray).size : Nat) := by
    refine ⟨by omega, ?_⟩
    show (k : Int) < (l.toArray.size : Nat)
    rw [List.size_toArray]; omega
  rw [dif_pos h1]
  congr 3
  have h2 : ((⟨l.toArray⟩ : ByteArray)[(k : Int).toNat]'(by omega)) = l[k] := by
    show l.toArray[(k : Int).toNat]'_ = l[k]
    simp
  rw [h2, List.getD_eq_getElem?_getD, List.getElem?_eq_getElem hk]
  rfl
def encB (b : UInt8) : List Value := [bv b]
theorem encB_map (l : List UInt8) : l.flatMap encB = l.map bv := by
  induction l with
  | nil => rfl
  | cons x r ih => rw [List.flatMap_cons, ih]; rfl
theorem encB_bts {base : Nat} {e : TypeId} {w : World} {v : Value} {l : List UInt8} (h : FlO w base e 1 encB v l) : Bts (fun j => base ≤ j ∧ j < w.heap.size) w v l := by
  have := h.fl
  unfold Fl at this
  rw [encB_map] at this
  exact this
theorem readB_succ (m : V) (a j : Nat) : readB m a (j + 1) = readB m a j ++ [byteAt m (a + j)] := by
  unfold readB
  rw [List.range_succ, List.map_append]
  rfl
set_option maxRecDepth 100000 in
set_option maxHeartbeats 4000000 in
theorem rvpeek_any (addr size : Nat) (ha : addr < 18446744073709551616) (hs : size ≤ 1000) (h : Fl A w 6 encS v m) (hok : Ok m) :
    Calls Tryd.prog 41 #[.agg #[v], .int .u64 (addr : Int), .int .u64 (size : Int)] w fun e w' => ∃ v', e = .returned (.tuple #[v', .int .i64 (peekE m addr size : Nat)]) ∧ FlO w' w.heap.size 5 1 encB v' (peekB m addr size) ∧ Keep No w w' := by
  obtain ⟨av, cv, rfl, _, _⟩ := h.shape
  have hX : peekB m addr size = if size = 0 then [] else if Vm.heldE m addr size = 0 then readB m addr size else [] := rfl
  have hE : peekE m addr size = if size = 0 then 0 else Vm.heldE m addr size := rfl
  have hpt := @held_parts m addr size
  have hml := hok.len
  generalize peekB m addr size = X at *
  generalize peekE m addr size = E at *
  by_cases h0 : size = 0
  · subst h0
    rw [if_pos rfl] at hX hE
    subst hX hE
    clear hs hpt hok
    go_enter Tryd.func41, Tryd.ntmps41
    go_wp2_with fail
    go_ret2
    exact ⟨_, rfl, FlO.nil, (Keep.refl _ _).alloc _⟩
  · rw [if_neg h0] at hX hE
    have hth := fun (W : World) (hk : Keep No w W) => rvthere_any (w := W) addr size ha (by omega) (by omega) (by omega) (h.no hk) (by omega) (ok_small hok)
    have hne0 : ((size : Int) == 0) = false := by simpa using h0
    have HX := Lib.hid hX
    have HOK := Lib.hid hok
    have HPT := Lib.hid hpt
    have hhe : Vm.heldE m addr size = 0 ∨ Vm.heldE m addr size = 40 := by
      unfold Vm.heldE
      split
      · exact .inr rfl
      · split
        · exact .inl rfl
        · exact .inr rfl
    clear hX hok hpt h0
    have HTH := Lib.hid hth
    have hsz : (size : Int) ≤ 1000 := by omega
    have HL := Lib.hid h
    clear hth h
    go_enter Tryd.func41, Tryd.ntmps41
    go_wp2_with fail
    have hkW : Keep No w (w.alloc (.cells #[.slice av m.length cv] 59)) := (Keep.refl _ _).alloc _
    have hBW : Blk (w.alloc (.cells #[.slice av m.length cv] 59)) w.heap.size #[.slice av m.length cv] 59 := Blk.new _ _ _
    have hzW : (w.alloc (.cells #[.slice av m.length cv] 59)).heap.size = w.heap.size + 1 := World.size_alloc _ _
    generalize w.alloc (.cells #[.slice av m.length cv] 59) = W at *
    have q3 : W.cell? ⟨w.heap.size, 0, none⟩ = some (.slice av m.length cv) := hBW.cell 0
    have hcall := HTH.out W hkW
    go_wp2_with fail
    refine hcall.mono ?_
    rintro e W2 ⟨rfl, hk2⟩
    have hB2 := hBW.keep hk2 fun h => h
    have hkw2 := hkW.trans' hk2
    rcases hhe with he | he
    · rw [he] at hE HX ⊢
      subst hE
      rw [if_pos rfl] at HX
      obtain ⟨p1, p2, _, p4⟩ := HPT.out he
      unfold top at p1 p2
      have hal : (addr : Int) ≤ 4294967296 := by omega
      have hsl : (addr : Int) + (size : Int) ≤ 4294967296 := by omega
      have HP4 := Lib.hid p4
      clear p1 p2 p4 he hcall q3 hBW hkW hk2
      go_wp2_with fail
      go_loopw [9, 10] (fun lv iv wr => ∃ j : Nat, iv = .int .u64 ((addr + j : Nat) : Int) ∧ j ≤ size ∧ FlO wr W2.heap.size 5 1 encB lv (readB m addr j) ∧ Keep No W2 wr) (fun _ iv _ => addr + size - (intOf iv).toNat)
      case atStart => exact ⟨0, rfl, Nat.zero_le _, FlO.nil, Keep.refl _ _⟩
      case round =>
        obtain ⟨j, rfl, hj, ho, hk⟩ := hrel
        generalize wr = wz at *
        have hB3 := hB2.keep hk fun h => h
        have p3 : wz.cell? ⟨w.heap.size, 0, none⟩ = some (.slice av m.length cv) := hB3.cell 0
        have hkz := hkw2.trans' hk
        obtain ⟨al, cl, rfl, _, _⟩ := ho.fl.shape
        have hlen := readB_len m addr j
        rw [hlen] at ho ⊢
        rcases Nat.lt_or_ge j size with hlt | hge
        · obtain ⟨i, hi, hpa, hpat⟩ := page_idx (there_at HP4.out hlt)
          have hby : byteAt m (addr + j) = m[i].b.getD ((addr + j) % 256) 0 := by unfold byteAt; rw [hpat]
          have hsu := readB_succ m addr j
          rw [hby] at hsu
          obtain ⟨g, off, cap, e, _, hgl, _, _, hc⟩ := (HL.out.no hkz).at encS_len hi
          cases e
          have c5 : wz.cell? ⟨g, off + i * 6 + 5, none⟩ = some (.string ⟨m[i].b.toArray⟩) := hc 5 _ rfl
          have hpb := (HOK.out.pg _ (List.getElem_mem hi)).bl
          have hix := str_index m[i].b ((addr + j) % 256) (by omega)
          have hfi : ∀ W, Keep No wz W → _ := fun W hkw => rvfind_at (w := W) (addr + j) (by omega) (HL.out.no (hkz.trans' hkw)) HOK.out hi hpa
          have HSU := Lib.hid hsu
          have HFI := Lib.hid hfi
          have hilz : (i : Int) < (m.length : Int) := by omega
          have hltz : ((addr + j : Nat) : Int) < (addr : Int) + (size : Int) := by omega
          have hmod : ((addr + j : Nat) : Int).tmod 256 = (((addr + j) % 256 : Nat) : Int) := by rw [Int.tmod_eq_emod_of_nonneg (by omega)]; omega
          have hA0 : addr + j < 4294967296 := by omega
          have hstp : addr + j + 1 = addr + (j + 1) := by omega
          have HST := Lib.hid hstp
          have HLEN := Lib.hid hlen
          clear hsu hfi hc hby hpa hpat hpb hstp hlen
          generalize m[i].b.getD ((addr + j) % 256) 0 = by_ at *
          generalize (addr + j) % 256 = k0 at *
          generalize (⟨m[i].b.toArray⟩ : ByteArray) = bs at *
          generalize addr + j = A0 at *
          have hkd : Keep No wz wz.drew := (Keep.refl No wz).drew
          go_wp2_with fail
          refine wp_region_sig (fun w' => w'.cell? ⟨w.heap.size, 0, none⟩ = some (.slice (some ⟨g, off, none⟩) m.length cv) ∧ w'.cell? ⟨g, off + i * 6 + 5, none⟩ = some (.string bs)) (fun j => decide (j ≤ 12)) [(0, true), (1, true), (2, true), (3, true), (4, true), (9, true), (10, true), (5, false), (6, true), (7, true), (8, true), (11, true), (12, false), (13, false), (14, false)] (by kernel_rfl) (by kernel_rfl) (by intro c a d v w h; cases d <;> exact h) ⟨p3, c5⟩ ?_
          apply sig_still (o := ⟨some 27, _, _, _, _, _⟩) rfl rfl
          · intro w' hS
            obtain ⟨q1, q2⟩ := hS
            first | (go_simp; done) | (go_simp; rfl) | rfl
          go_frame
          apply sig_still (o := ⟨some 28, _, _, _, _, _⟩) rfl rfl
          · intro w' hS
            obtain ⟨q1, q2⟩ := hS
            first | (go_simp; done) | (go_simp; rfl) | rfl
          go_frame
          apply sig_still (o := ⟨some 29, _, _, _, _, _⟩) rfl rfl
          · intro w' hS
            obtain ⟨q1, q2⟩ := hS
            first | (go_simp; done) | (go_simp; rfl) | rfl
          go_frame
          apply sig_still (o := ⟨some 30, _, _, _, _, _⟩) rfl rfl
          · intro w' hS
            obtain ⟨q1, q2⟩ := hS
            first | (go_simp; done) | (go_simp; rfl) | rfl
          go_frame
          apply sig_still (o := ⟨some 31, _, _, _, _, _⟩) rfl rfl
          · intro w' hS
            obtain ⟨q1, q2⟩ := hS
            first | (go_simp; done) | (go_simp; rfl) | rfl
          go_frame
          apply sig_still (o := ⟨some 36, _, _, _, _, _⟩) rfl rfl
          · intro w' hS
            obtain ⟨q1, q2⟩ := hS
            first | (go_simp; done) | (go_simp; rfl) | rfl
          go_frame
          apply sig_still (o := ⟨some 37, _, _, _, _, _⟩) rfl rfl
          · intro w' hS
            obtain ⟨q1, q2⟩ := hS
            first | (go_simp; done) | (go_simp; rfl) | rfl
          go_frame
          refine sig_eff (o := ⟨some 32, _, _, _, _, _⟩) rfl rfl (fun K hKe => ?_)
          have hfa := HFI.out _ hkd
          go_wp2_with fail
          refine hfa.mono ?_
          rintro e w3 ⟨rfl, hk3⟩
          replace hk3 := hkd.trans' hk3
          have p3a : w3.cell? ⟨w.heap.size, 0, none⟩ = _ := (hk3.cell (p := ⟨w.heap.size, 0, none⟩) hB3.lt fun h => h).trans p3
          have c5a : w3.cell? ⟨g, off + i * 6 + 5, none⟩ = _ := (hk3.cell (p := ⟨g, off + i * 6 + 5, none⟩) hgl fun h => h).trans c5
          go_wp2_with fail
          refine ⟨fun _ => ⟨p3a, c5a⟩, ?_⟩
          apply sig_still (o := ⟨some 33, _, _, _, _, _⟩) rfl rfl
          · intro w' hS
            obtain ⟨q1, q2⟩ := hS
            first | (go_simp; done) | (go_simp; rfl) | rfl
          go_frame
          apply sig_still (o := ⟨some 34, _, _, _, _, _⟩) rfl rfl
          · intro w' hS
            obtain ⟨q1, q2⟩ := hS
            first | (go_simp; done) | (go_simp; rfl) | rfl
          go_frame
          apply sig_still (o := ⟨some 35, _, _, _, _, _⟩) rfl rfl
          · intro w' hS
            obtain ⟨q1, q2⟩ := hS
            first | (go_simp; done) | (go_simp; rfl) | rfl
          go_frame
          apply sig_still (o := ⟨some 38, _, _, _, _, _⟩) rfl rfl
          · intro w' hS
            obtain ⟨q1, q2⟩ := hS
            first | (go_simp; done) | (go_simp; rfl) | rfl
          go_frame
          refine sig_eff (o := ⟨some 39, _, _, _, _, _⟩) rfl rfl (fun K hKe => ?_)
          go_wp2_with fail
          have hka : Keep No w3 (w3.alloc (.cells #[bv by_] 5)) := (Keep.refl _ _).alloc _
          refine ⟨fun _ => ⟨((hk3.trans' hka).cell (p := ⟨w.heap.size, 0, none⟩) hB3.lt fun h => h).trans p3, ((hk3.trans' hka).cell (p := ⟨g, off + i * 6 + 5, none⟩) hgl fun h => h).trans c5⟩, ?_⟩
          refine sig_eff (o := ⟨some 40, _, _, _, _, _⟩) rfl rfl (fun K hKe => ?_)
          refine wo_append (.tmp 27) (.tmp 39) 94 94 rfl _ _ rfl rfl ?_
          refine rg_push (w := w3) (cs := #[bv by_]) (enc := encB) (x := by_) (l := readB m addr j) (base := W2.heap.size) _ 1 Tryd.underlying94 o_info rfl (by decide) rfl rfl (by intro u hu; simp only [encB, List.mem_singleton] at hu; subst hu; rfl) (by exact ho.no hk3) (by rw [HLEN.out]; omega) (by decide) (by exact Nat.le_trans hk.size hk3.size) ?_
          intro lv2 w4 ho4 hk4 _
          have hk4' : Keep No W2 w4 := (hk.trans' hk3).own (ho.no hk3) hk4
          rw [← HSU.out] at ho4
          obtain ⟨a4, c4, rfl, _, _⟩ := ho4.fl.shape
          refine hKe _ _ ⟨fun h => by simp at h, ?_⟩
          refine sig_eff (o := ⟨some 9, _, _, _, _, _⟩) rfl rfl (fun K hKe => ?_)
          go_wp2_with fail
          refine ⟨fun h => by simp at h, sig_nil ?_⟩
          go_wp2_with fail
          go_roundw
          case rel => exact ⟨j + 1, by rw [← HST.out]; go_num, hlt, ho4, hk4'⟩
          case measure => have := HST.out; simp [intOf]; omega
        · obtain rfl : j = size := Nat.le_antisymm hj hge
          have hltz : ¬ ((addr + j : Nat) : Int) < (addr : Int) + (j : Int) := by omega
          clear hlen
          generalize addr + j = A0 at *
          go_wp2_with fail
          go_ret2
          rw [HX.out]
          exact ⟨_, rfl, World.ownsRow.base_le ho hkw2.size, hkz⟩
    · rw [he] at hE HX ⊢
      subst hE
      rw [if_neg (by decide)] at HX
      clear hcall HPT
      go_wp2_with fail
      go_ret2
      rw [HX.out]
      exact ⟨_, rfl, FlO.nil, hkw2⟩
end
end Go.Proofs.YthfekjnekaecaaaDoor
