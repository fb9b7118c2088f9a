/- The document's image: the bytes of an address. No condition. -/
import Derived.Test.YtbnahidopemkiaaGreatDz5
import Derived.Test.YtbnahidopemkiaaGreatClN
set_option linter.unusedVariables false
set_option linter.unusedSimpArgs false
namespace Go.Proofs.YtbnahidopemkiaaGreat
open Go.RowKit Go.Dm Go.Dm.Oc Go.Dm.Ld
section
variable {A : Nat → Prop} {w : World}
set_option maxRecDepth 100000 in
set_option maxHeartbeats 1000000 in
theorem r09bytes_any (h : Hd) (vs : Value) (so : BS) (vn vm vy vr vb : Value) (l : List Sg) (b : BS) (addr size : Nat) (hl : Fl A w 7 encSg vs l) (hb : Bts A w vb b) (hbl : b.length ≤ 1000000000)
    (hok : ∀ x ∈ l, SgOk x) (hok2 : ∀ x ∈ l, x.ty = 1 → x.off + x.fi < 18446744073709551616) (ha : addr < 18446744073709551616) (hz : size < 18446744073709551616) :
    Calls Tryz.prog 101 #[.agg (imC h vs so vn vm vy vr vb).toArray, .int .u64 (addr : Int), .int .u64 (size : Int)] w fun e w' => ∃ v', e = .returned (.tuple #[v', .int .i64 ((atI b l addr size).1 : Nat)]) ∧ FlO w' w.heap.size 5 1 e8 v' (atI b l addr size).2 ∧ Keep No w w' := by
  have hpl := fun W (k : Keep No w W) => r04place_any (w := W) l addr size (hl.no k) hok hok2 ha hz
  have hp2 := place_ok l addr size _ hok2 (by decide)
  obtain ⟨r, hr⟩ : ∃ r, r = atI b l addr size := ⟨_, rfl⟩
  rw [← hr]
  unfold atI at hr
  have hcut := fun W (k : Keep No w W) => r01cut_any (w := W) b (placeM l addr size).2 size (Sl.keep hb k fun _ _ _ h => h) hbl hp2 hz
  have HR := Lib.hid hr
  obtain ⟨a1, c1, rfl, _, _⟩ := hl.shape
  obtain ⟨a2, c2, rfl, _, _⟩ := Sl.shape hb
  clear hr hok hok2 hl hb
  generalize placeM l addr size = p at *
  obtain ⟨pe, po⟩ := p
  dsimp only at hpl hcut HR hp2
  have HPL := Lib.hid hpl
  have HCUT := Lib.hid hcut
  clear hpl hcut
  unfold imC
  go_enter Tryz.func101, Tryz.ntmps101
  go_wp2_with fail
  have hkW : Keep No w (w.alloc (.cells #[.int .i64 (h.kind : Int), .int .u64 (h.entry : Int), .int .u64 (h.segs : Int), .int .i64 (h.count : Int), .slice a1 l.length c1, .string ⟨so.toArray⟩, vn, vm, vy, vr, .slice a2 b.length c2] 70)) := (Keep.refl _ _).alloc _
  have hBW : Blk (w.alloc (.cells #[.int .i64 (h.kind : Int), .int .u64 (h.entry : Int), .int .u64 (h.segs : Int), .int .i64 (h.count : Int), .slice a1 l.length c1, .string ⟨so.toArray⟩, vn, vm, vy, vr, .slice a2 b.length c2] 70)) w.heap.size #[.int .i64 (h.kind : Int), .int .u64 (h.entry : Int), .int .u64 (h.segs : Int), .int .i64 (h.count : Int), .slice a1 l.length c1, .string ⟨so.toArray⟩, vn, vm, vy, vr, .slice a2 b.length c2] 70 := Blk.new _ _ _
  have hzW : (w.alloc (.cells #[.int .i64 (h.kind : Int), .int .u64 (h.entry : Int), .int .u64 (h.segs : Int), .int .i64 (h.count : Int), .slice a1 l.length c1, .string ⟨so.toArray⟩, vn, vm, vy, vr, .slice a2 b.length c2] 70)).heap.size = w.heap.size + 1 := World.size_alloc _ _
  generalize w.alloc (.cells #[.int .i64 (h.kind : Int), .int .u64 (h.entry : Int), .int .u64 (h.segs : Int), .int .i64 (h.count : Int), .slice a1 l.length c1, .string ⟨so.toArray⟩, vn, vm, vy, vr, .slice a2 b.length c2] 70) = W at *
  refine (HPL.out W hkW).mono ?_
  rintro e w2 ⟨rfl, k2⟩
  have d10 := (hBW.keep k2 fun h => h).cell 10
  have hk2 := hkW.trans' k2
  by_cases hpe : pe = 0
  · subst hpe
    have hr := HR.out
    rw [if_pos rfl] at hr
    subst hr
    go_wp2_with fail
    refine (HCUT.out w2 hk2).mono ?_
    rintro e w3 ⟨v3, rfl, h3, k3⟩
    obtain ⟨a3, n3, c3, rfl⟩ : ∃ a n c, v3 = .slice a n c := by
      obtain ⟨a, c, e, _⟩ := h3.fl.shape
      exact ⟨_, _, _, e⟩
    go_wp2_with fail
    go_ret2
    exact ⟨_, rfl, own_base h3 hk2.size, hk2.trans' k3⟩
  · have hr := HR.out
    rw [if_neg hpe] at hr
    subst hr
    have hq : ((pe : Int) != 0) = true := by rw [bne_iff_ne]; omega
    go_wp2_with fail
    go_ret2
    exact ⟨_, rfl, FlO.nil, hk2⟩
end
end Go.Proofs.YtbnahidopemkiaaGreat
