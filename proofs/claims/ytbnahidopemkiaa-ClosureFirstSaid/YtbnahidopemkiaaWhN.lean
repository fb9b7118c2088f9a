/- What the file of a Spec says: parseM of buildM. What the closure's order is, plainly: each name once, each needed by one ahead, all needed there. Chapter 15: the first of several files of one name, by the plain models. Chapter 15: of several files of one name the first one counts. Chapter 15: the files of a list of needs. What ClosureWhole asks of an order, plainly. No condition. -/
import Derived.Test.YtbnahidopemkiaaBpE
import Derived.Test.YtbnahidopemkiaaApS
import Derived.Test.YtbnahidopemkiaaLawK2
import Derived.BigQuiet
import Derived.Test.YtbnahidopemkiaaRd
set_option linter.unusedVariables false
set_option linter.unusedSimpArgs false
namespace Go.Dm.Ld
open Go Go.Dm.Oc Go.Proofs.Ytbnahidopemkiaa
/-- where a Spec's parts stand -/
def tabS (s : Sp) : BS := (strM (strsOf s)).2.1
def atsS (s : Sp) : List Nat := (strM (strsOf s)).2.2
def layS (s : Sp) : Lay := layM s (tabS s).length (atsS s)
def outS (s : Sp) : BS := bodyM s (layS s) (tabS s) (atsS s)
def hdS (s : Sp) : Hd := ⟨s.kind.toNat, if s.code.isEmpty then 0 else ((layS s).code + s.entry) % 18446744073709551616, 64, (layS s).count⟩
def imS (s : Sp) : Im := ⟨hdS s, segsM s (layS s), s.so, s.need, namesL s, symsL s (layS s) (atsS s), relsL s (layS s), outS s⟩
theorem buildM_out {s : Sp} (hm : mayM s = 0) (hst : (strM (strsOf s)).1 = 0) (hl : (outS s).length ≤ 65536) : buildM s = (0, outS s) := by
  have h : buildM s = if mayM s ≠ 0 then (mayM s, []) else
      if (strM (strsOf s)).1 ≠ 0 then ((strM (strsOf s)).1, [])
      else if 65536 < (outS s).length then (13, []) else (0, outS s) := rfl
  rw [h, if_neg (fun h => h hm), if_neg (fun h => h hst), if_neg (by omega)]
theorem symsM_syms {b t : BS} {l : List Sg} {d : Dy} {c : BS} {L : List Sy} {N : List BS} (h4 : d.v.getD 4 0 ≤ 1024) (h0 : d.v.getD 4 0 ≠ 0) (hc : atI b l (d.v.getD 3 0) (24 * d.v.getD 4 0) = (0, c)) (hs : syTab c = (0, L)) (hk : chkS L = 0) (hn : nmGo t L [] = (0, N)) :
    symsM b l d t = (0, L, N) := by
  unfold symsM
  rw [if_neg (by omega), if_neg h0]
  dsimp only
  rw [hc]
  dsimp only
  rw [hs]
  dsimp only
  rw [hk, hn]
  rfl
theorem relsM_rels {b : BS} {l : List Sg} {d : Dy} {n : Nat} {c : BS} {L : List Rl} (h6 : d.v.getD 6 0 ≤ 65536) (h0 : d.v.getD 6 0 ≠ 0) (hc : atI b l (d.v.getD 5 0) (d.v.getD 6 0) = (0, c)) (hs : rlTab c = (0, L)) (hk : chkR n L = 0) : relsM b l d n = (0, L) := by
  unfold relsM
  rw [if_neg (by omega), if_neg h0]
  dsimp only
  rw [hc]
  dsimp only
  rw [hs]
  dsimp only
  rw [hk]
  rfl
theorem namedM_at {b : BS} {l : List Sg} {g : Sg} {nd V : List Nat} {t so : BS} {need : List BS} (h1 : At b g.off (infoB nd V)) (h2 : g.fi = (infoB nd V).length) (hn : ∀ v ∈ nd, v < 18446744073709551616) (hV : ∀ i, V.getD i 0 < 18446744073709551616)
    (ht : atI b l ((outV V).getD 1 0) ((outV V).getD 2 0) = (0, t)) (hc : chkN t = 0) (hso : soM t ((outV V).getD 0 0) = (0, so)) (hnd : needGo t nd [] = (0, need)) : namedM b l g = (0, ⟨⟨nd, outV V⟩, t, so, need⟩) := by
  have hd := dyM_at nd V hn hV
  unfold namedM
  rw [h1.cut h2]
  dsimp only
  rw [hd]
  dsimp only
  rw [ht]
  dsimp only
  rw [hc, hso, hnd]
  rfl
theorem parseM_at {b : BS} {h : Hd} {l : List Sg} {g : Sg} {n : Nd} {y : List Sy × List BS} {x : List Rl} (hl : b.length ≤ 65536) (hh : headM b = (0, h)) (hk : h.kind ≠ 4) (hs : sgTab b h.segs h.count = (0, l)) (he : chkE l b.length = 0) (hf : findM l 1 ≠ none) (h2 : findM l 2 = some g)
    (hn : namedM b l g = (0, n)) (hy : symsM b l n.info n.table = (0, y)) (hx : relsM b l n.info y.1.length = (0, x)) (ho : soundM l x y.1 = 0) : parseM b = (0, ⟨h, l, n.so, n.need, y.2, y.1, x, b⟩) := by
  have hsh : shapeM b = (0, h, l) := by
    unfold shapeM
    rw [hh]
    dsimp only
    rw [if_neg (fun h => h rfl), if_neg hk, hs]
    dsimp only
    rw [if_neg (fun h => h rfl), he, if_neg (fun h => h rfl), if_neg hf]
  unfold parseM
  rw [if_neg (by omega), hsh]
  dsimp only
  rw [if_neg (fun h => h rfl), h2]
  dsimp only
  rw [hn]
  dsimp only
  rw [hy]
  dsimp only
  rw [hx]
  dsimp only
  rw [ho]
  rfl
theorem sySound_ok {l : List Sg} : ∀ (L : List Sy), (∀ x ∈ L, ∀ r, sySound l (x :: r) = sySound l r) → sySound l L = 0
  | [], _ => rfl
  | x :: r, h => by
    rw [h x (List.mem_cons_self ..)]
    exact sySound_ok r fun x hx => h x (List.mem_cons_of_mem _ hx)
theorem parse_build (s : Sp) (hg : GoodS s) (hst : (strM (strsOf s)).1 = 0) (hl : (outS s).length ≤ 65536) : parseM (outS s) = (0, imS s) := by
  obtain ⟨hkd, hdf, hfx, hbss, htbss, hsum⟩ := mayM_ok hg.may
  obtain ⟨D, hD1, hD2, hT, hz, htl⟩ := strM_at hst
  obtain ⟨_, hx16, _⟩ := strM_ok hst
  have hDl : D.length = 1 + s.need.length + s.defs.length := by
    have := congrArg List.length hD1
    rw [List.length_map] at this
    rw [this]
    unfold strsOf
    simp only [List.length_cons, List.length_append, List.length_map]
    omega
  have hal : (atsS s).length = 1 + s.need.length + s.defs.length := by
    unfold atsS
    rw [hD2, List.length_map, hDl]
  have hF : LayF s (tabS s).length (atsS s) (layS s) := layM_f _ _ _
  have hB := bodyM_at hF hal
  have ho : outS s = bodyM s (layS s) (tabS s) (atsS s) := rfl
  rw [← ho] at hB
  have hx : ∀ x ∈ atsS s, x < 65536 := hx16
  have hatD : atsS s = D.map (·.2) := hD2
  have hT : TbOk (tabS s) D := hT
  have htl : (tabS s).length ≤ 65536 := htl
  have hF' := hF
  obtain ⟨y1, y2, y3, y4, y5, y6, y7, y8⟩ := hF'
  obtain ⟨b1, b2, b3, b4, b5, b6⟩ := hB
  have hcnt : (layS s).count ≤ 5 := by
    rw [y1]
    split <;> split <;> split <;> omega
  have htp : 0 < (tabS s).length := by have := hT.zero.len; simp only [List.length_cons, List.length_nil] at this; omega
  have e3 : (layS s).v.getD 3 0 = upM ((layS s).dyn + (layS s).size + (tabS s).length) 8 := by rw [y3]; rfl
  have e5 : (layS s).v.getD 5 0 = upM ((layS s).dyn + (layS s).size + (tabS s).length) 8 + 24 * (if s.defs.isEmpty then 0 else s.defs.length + 1) := by rw [y3]; rfl
  have e6 : (layS s).v.getD 6 0 = 24 * s.fixes.length := by rw [y3]; rfl
  have e4 : (layS s).v.getD 4 0 = if s.defs.isEmpty then 0 else s.defs.length + 1 := by rw [y3]; rfl
  have e1 : (layS s).v.getD 1 0 = (layS s).dyn + (layS s).size := by rw [y3]; rfl
  have e2 : (layS s).v.getD 2 0 = (tabS s).length := by rw [y3]; rfl
  have e0 : (layS s).v.getD 0 0 = (atsS s).getD 0 0 := by rw [y3]; rfl
  have hr := b3.len
  rw [flat24 _ (fun _ => relR_len _), e5] at hr
  have hlast : (layS s).last ≤ (outS s).length := by rw [y5]; exact hr
  have hszp : 0 < (layS s).size := by
    rw [y4]
    unfold infoB
    rw [List.length_append]
    have : (entB 0 0).length = 16 := by unfold entB; simp only [List.length_append, le_len]
    omega
  have hup : (layS s).dyn + (layS s).size + (tabS s).length ≤ upM ((layS s).dyn + (layS s).size + (tabS s).length) 8 := by unfold upM; omega
  have hS : Sane s (layS s) (outS s).length := by
    refine ⟨y2, by omega, hszp, hlast, hl, ?_, ?_, ?_, fun h => (b4 h).len, fun h => (b5 h).len, fun h => (b6 h).len, by omega, by omega, by omega, hbss, htbss⟩
    · rw [y6]; rfl
    · rw [y7]; rfl
    · rw [y8]; rfl
  have hseg := headsM_segs s (layS s)
  have hb0 : At (outS s) 0 (headB (hdS s) ++ (segsM s (layS s)).flatMap segR) := by
    have := b1.left.left
    rw [hseg] at this
    exact this
  have hcl : (segsM s (layS s)).length = (layS s).count := by rw [segsM_len, y1]
  have hinfo : At (outS s) (layS s).dyn (infoB (((atsS s).drop 1).take s.need.length) (layS s).v) := by
    refine b1.left.of_eq rfl ?_
    rw [headsM_len, ← y1, y2]
    omega
  have htab : At (outS s) ((layS s).dyn + (layS s).size) (tabS s) := by
    refine b1.of_eq rfl ?_
    rw [List.length_append, headsM_len, ← y1, ← y4, y2]
    omega
  have hd0 : ∃ p0 ∈ D, p0.1 = s.so ∧ (atsS s).getD 0 0 = p0.2 := by
    rw [hatD]
    cases hDD : D with
    | nil => rw [hDD] at hD1; cases hD1
    | cons p r =>
      rw [hDD] at hD1
      refine ⟨p, List.mem_cons_self .., ?_, rfl⟩
      have : p.1 :: r.map (·.1) = strsOf s := hD1
      unfold strsOf at this
      injection this
  obtain ⟨p0, hp0, hp1, hp2⟩ := hd0
  have hndD : ((atsS s).drop 1).take s.need.length = ((D.drop 1).take s.need.length).map (·.2) := by rw [hatD, List.map_take, List.map_drop]
  have hndN : ((D.drop 1).take s.need.length).map (·.1) = s.need := by
    rw [List.map_take, List.map_drop, hD1]
    unfold strsOf
    rw [List.drop_succ_cons, List.drop_zero, List.take_left]
  have hDD : (D.drop (1 + s.need.length)).map (·.1) = s.defs.map (·.nm) := by
    rw [List.map_drop, hD1]
    unfold strsOf
    rw [Nat.add_comm, List.drop_succ_cons, List.drop_left]
  have hDa : (atsS s).drop (1 + s.need.length) = (D.drop (1 + s.need.length)).map (·.2) := by rw [hatD, List.map_drop]
  have hnamed : namedM (outS s) (segsM s (layS s)) (sgN (layS s)) = (0, ⟨⟨((atsS s).drop 1).take s.need.length, outV (layS s).v⟩, tabS s, s.so, s.need⟩) := by
    refine namedM_at hinfo y4 (fun v hv => Nat.lt_trans (hx v (List.mem_of_mem_drop (List.mem_of_mem_take hv))) (by decide)) ?_ ?_ hT.chk ?_ ?_
    · intro i
      have h7 : i = 0 ∨ i = 1 ∨ i = 2 ∨ i = 3 ∨ i = 4 ∨ i = 5 ∨ i = 6 ∨ 7 ≤ i := by omega
      rcases h7 with rfl | rfl | rfl | rfl | rfl | rfl | rfl | h7
      · rw [e0, hp2]
        have : p0.2 ∈ atsS s := by rw [hatD]; exact List.mem_map.2 ⟨p0, hp0, rfl⟩
        have := hx _ this
        omega
      · omega
      · omega
      · omega
      · rw [e4]; have := hg.dl; split <;> omega
      · omega
      · omega
      · have : (layS s).v.length = 7 := by rw [y3]; rfl
        rw [List.getD_eq_getElem?_getD, List.getElem?_eq_none (by omega)]
        decide
    · show atI _ _ ((layS s).v.getD 1 0) ((layS s).v.getD 2 0) = _
      rw [e1, e2]
      exact atI_at htab rfl htp (by rw [y5]; omega)
    · show soM _ ((layS s).v.getD 0 0) = _
      rw [e0, hp2, ← hp1]
      exact soM_at hT hz hp0
    · rw [hndD]
      have := needGo_at (t := tabS s) ((D.drop 1).take s.need.length) [] fun z hzm => by
        have hzD := List.mem_of_mem_drop (List.mem_of_mem_take hzm)
        refine ⟨hT.atM hz hzD, hg.nm _ ?_⟩
        rw [← hndN]
        exact List.mem_map.2 ⟨z, hzm, rfl⟩
      rw [this, hndN, List.nil_append]
  have hzip : ∀ p ∈ (D.drop (1 + s.need.length)).zip s.defs, p.1 ∈ D ∧ p.2 ∈ s.defs ∧ p.1.1 = p.2.nm := fun p hp => by
    obtain ⟨i, hi, e⟩ := List.mem_iff_getElem.1 hp
    rw [List.getElem_zip] at e
    rw [List.length_zip] at hi
    have hi1 : i < (D.drop (1 + s.need.length)).length := by omega
    have hi2 : i < s.defs.length := by omega
    refine ⟨by rw [← e]; exact List.mem_of_mem_drop (List.getElem_mem hi1), by rw [← e]; exact List.getElem_mem hi2, ?_⟩
    rw [← e]
    have h1 : ((D.drop (1 + s.need.length)).map (·.1))[i]? = (s.defs.map (·.nm))[i]? := by rw [hDD]
    rw [List.getElem?_map, List.getElem?_map, List.getElem?_eq_getElem hi1, List.getElem?_eq_getElem hi2] at h1
    injection h1
  have hsl : symsL s (layS s) (atsS s) = if s.defs.isEmpty then [] else sy0 :: ((D.drop (1 + s.need.length)).zip s.defs).map fun p => symOf (layS s) p.1.2 p.2 := by
    unfold symsL
    rw [hDa, List.zip_map_left, List.map_map]
    rfl
  have hsok : ∀ p ∈ (D.drop (1 + s.need.length)).zip s.defs, SyOk (symOf (layS s) p.1.2 p.2) ∧ mayS (symOf (layS s) p.1.2 p.2) = true ∧ (symOf (layS s) p.1.2 p.2).nm = p.1.2 ∧ ∀ r, sySound (segsM s (layS s)) (symOf (layS s) p.1.2 p.2 :: r) = sySound (segsM s (layS s)) r := fun p hp => by
    obtain ⟨h1, h2, h3⟩ := hzip p hp
    refine symOf_ok hg hS h2 (hx _ ?_) fun h0 => ?_
    · rw [hatD]; exact List.mem_map.2 ⟨p.1, h1, rfl⟩
    · exact hg.dnm p.2 h2 (h3 ▸ hT.pos h1 (hz _ h1) h0)
  have hsyms : symsM (outS s) (segsM s (layS s)) ⟨((atsS s).drop 1).take s.need.length, outV (layS s).v⟩ (tabS s) = (0, symsL s (layS s) (atsS s), namesL s) := by
    rcases (by cases s.defs <;> simp : s.defs.isEmpty = true ∨ s.defs.isEmpty = false ∧ s.defs ≠ []) with he | ⟨he, hne⟩
    · have h40 : (outV (layS s).v).getD 4 0 = 0 := by
        show (layS s).v.getD 4 0 = 0
        rw [e4, he, if_pos rfl]
      unfold symsM
      rw [if_neg (by show ¬ 1024 < (outV (layS s).v).getD 4 0; omega), if_pos h40]
      unfold symsL namesL
      rw [he, if_pos rfl, if_pos rfl]
    · have h4n : (layS s).v.getD 4 0 = s.defs.length + 1 := by rw [e4, he, if_neg (by decide)]
      have h4v : (outV (layS s).v).getD 4 0 = s.defs.length + 1 := h4n
      have h3v : (outV (layS s).v).getD 3 0 = (layS s).v.getD 3 0 := by
        show (if (layS s).v.getD 4 0 = 0 then 0 else (layS s).v.getD 3 0) = _
        rw [if_neg (by omega)]
      have hb2 := b2 hne
      have hpart : (List.replicate 24 0 ++ (((atsS s).drop (1 + s.need.length)).zip s.defs).flatMap fun p => symR (symOf (layS s) p.1 p.2)) = (symsL s (layS s) (atsS s)).flatMap symR := by
        unfold symsL
        rw [he, if_neg (by decide), List.flatMap_cons, symR0, List.flatMap_map]
      rw [hpart] at hb2
      have hln : (symsL s (layS s) (atsS s)).length = s.defs.length + 1 := by
        unfold symsL
        rw [he, if_neg (by decide), List.length_cons, List.length_map, List.length_zip, List.length_drop, hal]
        omega
      have hokA : ∀ x ∈ symsL s (layS s) (atsS s), SyOk x := fun x hxm => by
        rw [hsl, he, if_neg (by decide)] at hxm
        rcases List.mem_cons.1 hxm with rfl | hxm
        · exact ⟨by decide, by decide, by decide, by decide, by decide, by decide⟩
        · obtain ⟨p, hp, rfl⟩ := List.mem_map.1 hxm
          exact (hsok p hp).1
      refine symsM_syms (c := (symsL s (layS s) (atsS s)).flatMap symR) ?_ ?_ ?_ (syTab_at hokA) ?_ ?_
      · show (outV (layS s).v).getD 4 0 ≤ 1024
        have := hg.dl
        omega
      · show (outV (layS s).v).getD 4 0 ≠ 0
        omega
      · show atI _ _ ((outV (layS s).v).getD 3 0) (24 * (outV (layS s).v).getD 4 0) = _
        rw [h3v, h4v]
        refine atI_at hb2 (by rw [flat24 _ symR_len, hln]) (by omega) ?_
        rw [e3, y5, he, if_neg (by decide)]
        omega
      · rw [hsl, he, if_neg (by decide)]
        refine if_pos ⟨rfl, ?_⟩
        rw [List.all_eq_true]
        intro x hxm
        obtain ⟨p, hp, rfl⟩ := List.mem_map.1 hxm
        exact (hsok p hp).2.1
      · have hZ := nmGo_at (t := tabS s) (([], sy0) :: ((D.drop (1 + s.need.length)).zip s.defs).map fun p => (p.2.nm, symOf (layS s) p.1.2 p.2)) [] fun z hzm => by
          rcases List.mem_cons.1 hzm with rfl | hzm
          · exact atM_at hT.zero (by simp)
          · obtain ⟨p, hp, rfl⟩ := List.mem_map.1 hzm
            obtain ⟨h1, h2, h3⟩ := hzip p hp
            dsimp only
            rw [(hsok p hp).2.2.1, ← h3]
            exact hT.atM hz h1
        rw [List.map_cons, List.map_cons, List.map_map, List.map_map, List.nil_append] at hZ
        rw [hsl, he, if_neg (by decide)]
        unfold namesL
        rw [he, if_neg (by decide)]
        have hn1 : ((D.drop (1 + s.need.length)).zip s.defs).map ((fun x : BS × Sy => x.1) ∘ fun p => (p.2.nm, symOf (layS s) p.1.2 p.2)) = s.defs.map (·.nm) := by
          have : ((fun x : BS × Sy => x.1) ∘ fun p : (BS × Nat) × Df => (p.2.nm, symOf (layS s) p.1.2 p.2)) = (fun d : Df => d.nm) ∘ fun p : (BS × Nat) × Df => p.2 := rfl
          rw [this, ← List.map_map]
          congr 1
          show ((D.drop (1 + s.need.length)).zip s.defs).map Prod.snd = s.defs
          rw [List.map_snd_zip]
          rw [List.length_drop, hDl]
          omega
        rw [hn1] at hZ
        exact hZ
  have hrln : (symsL s (layS s) (atsS s)).length = if s.defs.isEmpty then 0 else s.defs.length + 1 := by
    unfold symsL
    split
    · rfl
    · rw [List.length_cons, List.length_map, List.length_zip, List.length_drop, hal]
      omega
  have hrok : ∀ x ∈ relsL s (layS s), RlOk x ∧ rlE (if s.defs.isEmpty then 0 else s.defs.length + 1) x = 0 ∧ (x.ty ≠ 0 → loadedB (segsM s (layS s)) x.off = true) := fun x hxm => by
    obtain ⟨f, hf, rfl⟩ := List.mem_map.1 hxm
    obtain ⟨h1, h2, h3⟩ := relOf_ok hg hS hf
    exact ⟨h1, h3, fun _ => loadedB_at hS (hfx f hf).1 (hg.fl f hf) h2⟩
  have hrels : relsM (outS s) (segsM s (layS s)) ⟨((atsS s).drop 1).take s.need.length, outV (layS s).v⟩ (symsL s (layS s) (atsS s)).length = (0, relsL s (layS s)) := by
    rw [hrln]
    have h6v : (outV (layS s).v).getD 6 0 = 24 * s.fixes.length := e6
    rcases Nat.eq_zero_or_pos s.fixes.length with h0 | h0
    · unfold relsM
      rw [if_neg (by show ¬ 65536 < (outV (layS s).v).getD 6 0; omega), if_pos (by show (outV (layS s).v).getD 6 0 = 0; omega)]
      unfold relsL
      rw [len0.1 h0]
      rfl
    · have h5v : (outV (layS s).v).getD 5 0 = (layS s).v.getD 5 0 := by
        show (if (layS s).v.getD 6 0 = 0 then 0 else (layS s).v.getD 5 0) = _
        rw [if_neg (by omega)]
      have hpart : (s.fixes.flatMap fun f => relR (relOf (layS s) f)) = (relsL s (layS s)).flatMap relR := by
        unfold relsL
        rw [List.flatMap_map]
      rw [hpart] at b3
      refine relsM_rels (c := (relsL s (layS s)).flatMap relR) ?_ ?_ ?_ (rlTab_at fun x hxm => (hrok x hxm).1) (chkR_ok _ fun x hxm => (hrok x hxm).2.1)
      · show (outV (layS s).v).getD 6 0 ≤ 65536
        omega
      · show (outV (layS s).v).getD 6 0 ≠ 0
        omega
      · show atI _ _ ((outV (layS s).v).getD 5 0) ((outV (layS s).v).getD 6 0) = _
        rw [h5v, h6v]
        refine atI_at b3 (by rw [flat24 _ relR_len]; unfold relsL; rw [List.length_map]) (by omega) ?_
        rw [e5, y5]
        omega
  have hsound : soundM (segsM s (layS s)) (relsL s (layS s)) (symsL s (layS s) (atsS s)) = 0 := by
    unfold soundM
    rw [if_neg]
    · refine sySound_ok _ fun x hxm => ?_
      rw [hsl] at hxm
      split at hxm
      · cases hxm
      · rcases List.mem_cons.1 hxm with rfl | hxm
        · exact fun r => rfl
        · obtain ⟨p, hp, rfl⟩ := List.mem_map.1 hxm
          exact (hsok p hp).2.2.2
    · rw [Bool.not_eq_true, List.any_eq_false]
      intro x hxm h
      rw [Bool.and_eq_true, decide_eq_true_eq, Bool.not_eq_true'] at h
      rw [(hrok x hxm).2.2 h.1] at h
      cases h.2
  have hkn : (hdS s).kind ≠ 4 := by
    show s.kind.toNat ≠ 4
    omega
  have hhead : headM (outS s) = (0, hdS s) := by
    refine headM_at hb0.left ?_ ?_ (by show 64 < _; decide)
    · unfold headOk hdS
      dsimp only
      rw [Bool.and_eq_true, Bool.and_eq_true, decide_eq_true_eq, decide_eq_true_eq, decide_eq_true_eq]
      omega
    · unfold hdS
      dsimp only
      split
      · decide
      · exact Nat.mod_lt _ (by decide)
  have hsg : sgTab (outS s) (hdS s).segs (hdS s).count = (0, segsM s (layS s)) := by
    have := sgTab_at (hb0.of_eq (k := 64) rfl (by rw [headB_len])) (fun x hxm => (hS.ok hcnt x hxm).1) (by omega)
    rw [hcl] at this
    exact this
  exact parseM_at hl hhead hkn hsg (hS.chkE hcnt) findM_1 findM_2 hnamed hsyms hrels hsound
end Go.Dm.Ld
namespace Go.Dm.Ld
open Go
theorem addN_ok : ∀ (need names names' : List BS), addN names need = some names' →
    ∃ t, names' = names ++ t ∧ (∀ x ∈ t, x ∈ need) ∧ (∀ x ∈ need, x ∈ names') ∧ (names.Nodup → names'.Nodup) ∧ (names.length ≤ 8 → names'.length ≤ 8)
  | [], names, names', h => by
    have h : some names = some names' := h
    injection h with h
    subst h
    exact ⟨[], by rw [List.append_nil], by simp, by simp, id, id⟩
  | n :: r, names, names', h => by
    have h : (if n ∈ names then addN names r else if names.length = 8 then none else addN (names ++ [n]) r) = some names' := h
    split at h
    · rename_i hn
      obtain ⟨t, h1, h2, h3, h4, h5⟩ := addN_ok r names names' h
      refine ⟨t, h1, fun x hx => List.mem_cons_of_mem _ (h2 x hx), fun x hx => ?_, h4, h5⟩
      rcases List.mem_cons.1 hx with rfl | hx
      · rw [h1]; exact List.mem_append_left _ hn
      · exact h3 x hx
    · rename_i hn
      split at h
      · cases h
      · rename_i h8
        obtain ⟨t, h1, h2, h3, h4, h5⟩ := addN_ok r (names ++ [n]) names' h
        refine ⟨n :: t, by rw [h1, List.append_assoc]; rfl, fun x hx => ?_, fun x hx => ?_, fun hnd => ?_, fun hl => ?_⟩
        · rcases List.mem_cons.1 hx with rfl | hx
          · exact List.mem_cons_self ..
          · exact List.mem_cons_of_mem _ (h2 x hx)
        · rcases List.mem_cons.1 hx with rfl | hx
          · rw [h1]; exact List.mem_append_left _ (List.mem_append_right _ (List.mem_singleton.2 rfl))
          · exact h3 x hx
        · refine h4 ?_
          rw [List.nodup_append]
          refine ⟨hnd, by simp, fun a ha b hb e => ?_⟩
          rw [List.mem_singleton.1 hb] at e
          exact hn (e ▸ ha)
        · refine h5 ?_
          rw [List.length_append]
          simp only [List.length_cons, List.length_nil]
          omega
structure WhI (names : List BS) (out : List (BS × Im)) : Prop where
  nm : out.map (·.1) = names.take out.length
  le : out.length ≤ names.length
  h8 : names.length ≤ 8
  nd : names.Nodup
  by_ : ∀ i (h : i < names.length), 0 < i → ∃ k u, k < i ∧ out[k]? = some u ∧ names[i] ∈ u.2.need
  all : ∀ u ∈ out, ∀ n ∈ u.2.need, n ∈ names
theorem WhI.step {names names' : List BS} {out : List (BS × Im)} (h : WhI names out) {n : BS} {u : Im} (hn : names[out.length]? = some n) (ha : addN names u.need = some names') : WhI names' (out ++ [(n, u)]) := by
  obtain ⟨hlt, hn⟩ := List.getElem?_eq_some_iff.1 hn
  obtain ⟨t, h1, h2, h3, h4, h5⟩ := addN_ok _ _ _ ha
  subst h1
  refine ⟨?_, ?_, h5 h.h8, h4 h.nd, fun i hi h0 => ?_, fun v hv x hx => ?_⟩
  · rw [List.map_append, h.nm, List.length_append]
    show names.take out.length ++ [n] = (names ++ t).take (out.length + 1)
    rw [List.take_append_of_le_length hlt, List.take_succ_eq_append_getElem hlt, hn]
  · rw [List.length_append, List.length_append]
    simp only [List.length_cons, List.length_nil]
    omega
  · rcases Nat.lt_or_ge i names.length with hl | hl
    · obtain ⟨k, v, hk, hv, hm⟩ := h.by_ i hl h0
      refine ⟨k, v, hk, ?_, ?_⟩
      · rw [List.getElem?_append_left (List.getElem?_eq_some_iff.1 hv).1]; exact hv
      · rw [List.getElem_append_left hl]; exact hm
    · refine ⟨out.length, (n, u), by omega, ?_, ?_⟩
      · rw [List.getElem?_append_right (Nat.le_refl _), Nat.sub_self]; rfl
      · rw [List.getElem_append_right hl]
        exact h2 _ (List.getElem_mem _)
  · rcases List.mem_append.1 hv with hv | hv
    · exact List.mem_append_left _ (h.all v hv x hx)
    · rw [List.mem_singleton.1 hv] at hx
      exact h3 x hx
structure WhO (l : List (BS × Im)) : Prop where
  h8 : l.length ≤ 8
  nd : (l.map (·.1)).Nodup
  by_ : ∀ i u, l[i]? = some u → 0 < i → ∃ k v, k < i ∧ l[k]? = some v ∧ u.1 ∈ v.2.need
  all : ∀ u ∈ l, ∀ n ∈ u.2.need, ∃ v ∈ l, v.1 = n
theorem WhI.done {names : List BS} {out : List (BS × Im)} (h : WhI names out) (hl : names.length ≤ out.length) : WhO out := by
  have hl2 : out.length = names.length := Nat.le_antisymm h.le hl
  have hnm : out.map (·.1) = names := by rw [h.nm, List.take_of_length_le hl]
  refine ⟨hl2 ▸ h.h8, hnm ▸ h.nd, fun i u hu h0 => ?_, fun u hu n hn => ?_⟩
  · obtain ⟨hi, hu⟩ := List.getElem?_eq_some_iff.1 hu
    obtain ⟨k, v, hk, hv, hm⟩ := h.by_ i (hl2 ▸ hi) h0
    refine ⟨k, v, hk, hv, ?_⟩
    have : names[i]'(hl2 ▸ hi) = u.1 := by
      subst hnm
      rw [List.getElem_map, hu]
    rwa [this] at hm
  · have := h.all u hu n hn
    rw [← hnm] at this
    obtain ⟨v, hv, e⟩ := List.mem_map.1 this
    exact ⟨v, hv, e⟩
theorem orderGo_ok (fs : Fs) : ∀ (f : Nat) (names : List BS) (out : List (BS × Im)), WhI names out → 8 ≤ f + out.length →
    ((orderGo fs f names out).1 ≠ 0 → (orderGo fs f names out).2 = []) ∧ ((orderGo fs f names out).1 = 0 → WhO (orderGo fs f names out).2)
  | 0, names, out, h, hf => by
    unfold orderGo
    split
    · exact ⟨fun _ => rfl, fun h => by cases h⟩
    · exact ⟨fun h => absurd rfl h, fun _ => h.done (by have := h.h8; omega)⟩
  | f + 1, names, out, h, hf => by
    unfold orderGo
    split
    · rename_i hn
      have hn := List.getElem?_eq_none_iff.1 hn
      split
      · exact ⟨fun _ => rfl, fun h => by cases h⟩
      · exact ⟨fun h => absurd rfl h, fun _ => h.done hn⟩
    · rename_i n hn
      split
      · rename_i h1
        exact ⟨fun _ => rfl, fun h => absurd h h1⟩
      · split
        · exact ⟨fun _ => rfl, fun h => by cases h⟩
        · rename_i names' ha
          exact orderGo_ok fs f names' _ (h.step hn ha) (by rw [List.length_append]; simp only [List.length_cons, List.length_nil]; omega)
theorem orderM_ok (root : BS) (fs : Fs) : ((orderM root fs).1 ≠ 0 → (orderM root fs).2 = []) ∧ ((orderM root fs).1 = 0 → WhO (orderM root fs).2) :=
  orderGo_ok fs 8 [root] [] ⟨rfl, Nat.zero_le _, by show 1 ≤ 8; decide, by simp, fun i h h0 => by simp at h; omega, fun u hu => by cases hu⟩ (Nat.le_refl _)
end Go.Dm.Ld
namespace Go.Dm.Ld
open Go Go.Dm.Oc
def fxS (a : BS) : Sp := libSp 3 [] a
def fm : BS := (buildM (libSp 2 [[120]] [1])).2
set_option maxRecDepth 100000 in
theorem fxe1 (a : UInt8) : (buildM (fxS [a])).1 = 0 := by kernel_rfl
set_option maxRecDepth 100000 in
theorem fxe2 (b : UInt8) : (buildM (fxS [b, b])).1 = 0 := by kernel_rfl
set_option maxRecDepth 100000 in
theorem cf1 (a b : UInt8) : (orderM [109] [([109], fm), ([120], (buildM (fxS [a])).2), ([120], (buildM (fxS [b, b])).2), ([109], [])]).1 = 0 ∧
    (orderM [109] [([109], fm), ([120], (buildM (fxS [a])).2), ([120], (buildM (fxS [b, b])).2), ([109], [])]).2.map (fun u => u.2.bytes) = [fm, (buildM (fxS [a])).2] := ⟨by kernel_rfl, by kernel_rfl⟩
set_option maxRecDepth 100000 in
theorem cf2 (a b : UInt8) : (orderM [109] [([109], fm), ([120], (buildM (fxS [b, b])).2), ([120], (buildM (fxS [a])).2)]).1 = 0 ∧
    (orderM [109] [([109], fm), ([120], (buildM (fxS [b, b])).2), ([120], (buildM (fxS [a])).2)]).2.map (fun u => u.2.bytes) = [fm, (buildM (fxS [b, b])).2] := ⟨by kernel_rfl, by kernel_rfl⟩
set_option maxRecDepth 100000 in
theorem cf3 (a : UInt8) : (orderM [109] [([109], []), ([109], fm), ([120], (buildM (fxS [a])).2)]).1 = 10 := by kernel_rfl
end Go.Dm.Ld
namespace Go.Proofs.Ytbnahidopemkiaa
open Go.RowKit Go.Dm Go.Dm.Oc Go.Dm.Ld
section
variable {A B : Nat → Prop} {w : World} {v : Value}
/-- the bytes of units, cell by cell -/
theorem us_bytes {ps : List UC} {us : List (BS × Im)} (hv : Fl A w 12 encU v ps) (hu : UsOk B w ps us) {i : Nat} {b : BS} (hi : (us.map fun u => u.2.bytes)[i]? = some b) :
    ∃ g off c vb, v = .slice (some ⟨g, off, none⟩) us.length c ∧ w.cell? ⟨g, off + i * 12 + 11, none⟩ = some vb ∧ us.length ≤ c ∧ c ≤ maxLen ∧ g < w.heap.size ∧ Bts B w vb b := by
  have hlen := hu.1
  rw [List.getElem?_map] at hi
  cases hp : us[i]? with
  | none => rw [hp] at hi; cases hi
  | some u =>
    rw [hp] at hi
    injection hi with hi
    have hi : u.2.bytes = b := hi
    obtain ⟨hlt, hpe⟩ := List.getElem?_eq_some_iff.1 hp
    have hlt2 : i < ps.length := by rw [hlen]; exact hlt
    have hun := hu.2 i _ _ (List.getElem?_eq_getElem hlt2) hp
    obtain ⟨_, vs, vn, vm, vy, vr, vb, e, _, _, _, _, _, h6⟩ := hun
    have e2 := congrArg (fun l : List Value => l[10]?) e
    have e3 : some ps[i].vb = some vb := e2
    injection e3 with e3
    obtain ⟨g, off, c, ev, _, hgl, _, _, hc⟩ := hv.at encU_len hlt2
    obtain ⟨a2, c2, e2, h2, h3⟩ := hv.shape
    rw [e2] at ev
    injection ev with q1 q2 q3
    subst q1 q3
    refine ⟨g, off, c2, ps[i].vb, by rw [e2, hlen], ?_, by rw [← hlen]; exact h2, h3, hgl, ?_⟩
    · exact hc 11 _ rfl
    · rw [e3, ← hi]; exact h6
theorem sp_one {a : List UInt8} (w : World) {x : Value} (h : Bts (fun _ => True) w x a) : SpR (fun _ => True) w (fxS a) (.slice none 0 0) x (.slice none 0 0) (.slice none 0 0) (.slice none 0 0) (.slice none 0 0) :=
  ⟨Fl.nil, h, Sl.nil _ _ _, Sl.nil _ _ _, Fl.nil, Fl.nil⟩
theorem fx_ok {a : List UInt8} (h : a.length ≤ 2) : SpOk (fxS a) := ⟨Nat.zero_le _, fun d h => (by cases h), fun d h => (by cases h), fun d h => (by cases h), Nat.zero_le _, Nat.zero_le _, Nat.zero_le _, by show a.length ≤ _; omega, Nat.zero_le _, Nat.zero_le _, by show 0 < _; decide, by show 0 < _; decide, by show 0 < _; decide⟩
set_option maxRecDepth 100000 in
set_option maxHeartbeats 4000000 in
theorem closurefirst_any (a b : UInt8) : Calls Try.prog 4 #[.int .u8 (a.toNat : Int), .int .u8 (b.toNat : Int)] w fun e w' => e = .returned (.bool true) ∧ Keep No w w' := by
  go_enter Try.func4, Try.ntmps4
  go_wp2_with fail
  refine awake15_any.mono ?_
  rintro e w1 ⟨rfl, hkA⟩
  go_wp2_with fail
  have hkW2 : Keep No w1 (w1.alloc (.cells #[.int .u8 (a.toNat : Int)] 5)) := (Keep.refl _ _).alloc _
  have hBW2 : Blk (w1.alloc (.cells #[.int .u8 (a.toNat : Int)] 5)) w1.heap.size #[.int .u8 (a.toNat : Int)] 5 := Blk.new _ _ _
  have hzW2 : (w1.alloc (.cells #[.int .u8 (a.toNat : Int)] 5)).heap.size = w1.heap.size + 1 := World.size_alloc _ _
  generalize w1.alloc (.cells #[.int .u8 (a.toNat : Int)] 5) = W2 at *
  have h1 : FlO W2 w1.heap.size 5 1 e8 (.slice (some ⟨w1.heap.size, 0, none⟩) 1 1) [a] := own_blk hBW2 (Nat.le_refl _) (n := 1) (size := 1) rfl (by unfold maxLen; omega)
  have hcall := r09build_any (fxS [a]) (sp_one W2 (Sl.mono (FlO.bts h1) fun _ _ _ => trivial)) (fx_ok (Nat.le_succ 1))
  have hea : (buildM (fxS [a])).1 = 0 := fxe1 a
  obtain ⟨xa, hxa⟩ : ∃ x, x = (buildM (fxS [a])).2 := ⟨_, rfl⟩
  rw [hea, ← hxa] at hcall
  have HXA := Lib.hid hxa
  clear hxa hea
  refine hcall.mono ?_
  clear hcall h1
  rintro e w3 ⟨v3, rfl, h3, k3⟩
  have hB3 : Bts (fun _ => True) w3 v3 xa := Sl.mono (FlO.bts h3) fun _ _ _ => trivial
  obtain ⟨a3, n3, c3, rfl⟩ := FlO.sh h3
  replace hkA := hkA.trans' (hkW2.trans' k3)
  clear h3 k3 hkW2 hBW2 hzW2
  go_wp2_with fail
  have hkW4 : Keep No w3 (w3.alloc (.cells #[.int .u8 (b.toNat : Int), .int .u8 (b.toNat : Int)] 5)) := (Keep.refl _ _).alloc _
  have hBW4 : Blk (w3.alloc (.cells #[.int .u8 (b.toNat : Int), .int .u8 (b.toNat : Int)] 5)) w3.heap.size #[.int .u8 (b.toNat : Int), .int .u8 (b.toNat : Int)] 5 := Blk.new _ _ _
  have hzW4 : (w3.alloc (.cells #[.int .u8 (b.toNat : Int), .int .u8 (b.toNat : Int)] 5)).heap.size = w3.heap.size + 1 := World.size_alloc _ _
  generalize w3.alloc (.cells #[.int .u8 (b.toNat : Int), .int .u8 (b.toNat : Int)] 5) = W4 at *
  have h1 : FlO W4 w3.heap.size 5 1 e8 (.slice (some ⟨w3.heap.size, 0, none⟩) 2 2) [b, b] := own_blk hBW4 (Nat.le_refl _) (n := 2) (size := 1) rfl (by unfold maxLen; omega)
  have hcall := r09build_any (fxS [b, b]) (sp_one W4 (Sl.mono (FlO.bts h1) fun _ _ _ => trivial)) (fx_ok (Nat.le_refl 2))
  have hea : (buildM (fxS [b, b])).1 = 0 := fxe2 b
  obtain ⟨xb, hxb⟩ : ∃ x, x = (buildM (fxS [b, b])).2 := ⟨_, rfl⟩
  rw [hea, ← hxb] at hcall
  have HXB := Lib.hid hxb
  clear hxb hea
  refine hcall.mono ?_
  clear hcall h1
  rintro e w5 ⟨v5, rfl, h5, k5⟩
  have hB5 : Bts (fun _ => True) w5 v5 xb := Sl.mono (FlO.bts h5) fun _ _ _ => trivial
  obtain ⟨a5, n5, c5, rfl⟩ := FlO.sh h5
  have k35 := hkW4.trans' k5
  replace hB3 := Sl.keep hB3 k35 fun _ _ _ h => h
  replace hkA := hkA.trans' k35
  clear h5 k5 hkW4 hBW4 hzW4 k35
  go_wp2_with fail
  have hkW6 : Keep No w5 (w5.alloc (.cells #[.string ⟨#[120]⟩] 9)) := (Keep.refl _ _).alloc _
  have hBW6 : Blk (w5.alloc (.cells #[.string ⟨#[120]⟩] 9)) w5.heap.size #[.string ⟨#[120]⟩] 9 := Blk.new _ _ _
  have hzW6 : (w5.alloc (.cells #[.string ⟨#[120]⟩] 9)).heap.size = w5.heap.size + 1 := World.size_alloc _ _
  generalize w5.alloc (.cells #[.string ⟨#[120]⟩] 9) = W6 at *
  have hl1 := lib15_any (w := W6) 2 [[120]] (strs_blk hBW6 rfl rfl (by decide)) (by decide) (by decide)
  obtain ⟨xm, hxm⟩ : ∃ x, x = (buildM (libSp 2 [[120]] [1])).2 := ⟨_, rfl⟩
  rw [← hxm] at hl1
  have HXM : Hid (xm = fm) := Lib.hid hxm
  clear hxm
  refine hl1.mono ?_
  clear hl1
  rintro e w7 ⟨v7, rfl, h7, k7⟩
  have hB7 : Bts (fun _ => True) w7 v7 xm := Sl.mono (FlO.bts h7) fun _ _ _ => trivial
  obtain ⟨a7, n7, c7, rfl⟩ := FlO.sh h7
  have k57 := hkW6.trans' k7
  replace hB3 := Sl.keep hB3 k57 fun _ _ _ h => h
  replace hB5 := Sl.keep hB5 k57 fun _ _ _ h => h
  replace hkA := hkA.trans' k57
  clear h7 k7 hkW6 hBW6 hzW6 k57
  have HLA : Hid (xa.length ≤ 1099511627776) := Lib.hid (by rw [HXA.out]; exact Nat.le_trans (buildM_le _) (by decide))
  have HLB : Hid (xb.length ≤ 1099511627776) := Lib.hid (by rw [HXB.out]; exact Nat.le_trans (buildM_le _) (by decide))
  have HLM : Hid (xm.length ≤ 1099511627776) := Lib.hid (by rw [HXM.out]; exact Nat.le_trans (buildM_le _) (by decide))
  have HF1 := Lib.hid (cf1 a b)
  have HF2 := Lib.hid (cf2 a b)
  have HF3 := Lib.hid (cf3 a)
  rw [← HXA.out, ← HXB.out, ← HXM.out] at HF1
  rw [← HXA.out, ← HXB.out, ← HXM.out] at HF2
  rw [← HXA.out, ← HXM.out] at HF3
  clear HXA HXB HXM
  go_wp2_with fail
  have hkW8 : Keep No w7 (w7.alloc (.cells #[.string ⟨#[109]⟩, .slice a7 n7 c7, .string ⟨#[120]⟩, .slice a3 n3 c3, .string ⟨#[120]⟩, .slice a5 n5 c5, .string ⟨#[109]⟩, .slice none 0 0] 29)) := (Keep.refl _ _).alloc _
  have hBW8 : Blk (w7.alloc (.cells #[.string ⟨#[109]⟩, .slice a7 n7 c7, .string ⟨#[120]⟩, .slice a3 n3 c3, .string ⟨#[120]⟩, .slice a5 n5 c5, .string ⟨#[109]⟩, .slice none 0 0] 29)) w7.heap.size #[.string ⟨#[109]⟩, .slice a7 n7 c7, .string ⟨#[120]⟩, .slice a3 n3 c3, .string ⟨#[120]⟩, .slice a5 n5 c5, .string ⟨#[109]⟩, .slice none 0 0] 29 := Blk.new _ _ _
  have hzW8 : (w7.alloc (.cells #[.string ⟨#[109]⟩, .slice a7 n7 c7, .string ⟨#[120]⟩, .slice a3 n3 c3, .string ⟨#[120]⟩, .slice a5 n5 c5, .string ⟨#[109]⟩, .slice none 0 0] 29)).heap.size = w7.heap.size + 1 := World.size_alloc _ _
  generalize w7.alloc (.cells #[.string ⟨#[109]⟩, .slice a7 n7 c7, .string ⟨#[120]⟩, .slice a3 n3 c3, .string ⟨#[120]⟩, .slice a5 n5 c5, .string ⟨#[109]⟩, .slice none 0 0] 29) = W8 at *
  have hf : FlO W8 w7.heap.size 29 2 encP (.slice (some ⟨w7.heap.size, 0, none⟩) 4 4) [(.string ⟨#[109]⟩, .slice a7 n7 c7), (.string ⟨#[120]⟩, .slice a3 n3 c3), (.string ⟨#[120]⟩, .slice a5 n5 c5), (.string ⟨#[109]⟩, .slice none 0 0)] :=
    own_blk hBW8 (Nat.le_refl _) (n := 4) (size := 2) rfl (by unfold maxLen; omega)
  have hor := clorder_any (w := W8) [109] (by decide) (fir_own (fs := [([109], xm), ([120], xa), ([120], xb), ([109], [])]) hf rfl
      (fir_one (fok (n := [109]) (Sl.keep hB7 hkW8 fun _ _ _ h => h)) (fir_one (fok (n := [120]) (Sl.keep hB3 hkW8 fun _ _ _ h => h)) (fir_one (fok (n := [120]) (Sl.keep hB5 hkW8 fun _ _ _ h => h)) (fir_one (fok (A := fun _ => True) (n := [109]) (Sl.nil _ _ _)) fir_no)))))
    (fun f hf => by
      simp only [List.mem_cons, List.not_mem_nil, or_false] at hf
      rcases hf with rfl | rfl | rfl | rfl
      · exact HLM.out
      · exact HLA.out
      · exact HLB.out
      · exact Nat.zero_le _)
  generalize orderM [109] [([109], xm), ([120], xa), ([120], xb), ([109], [])] = o at *
  obtain ⟨oe, ol⟩ := o
  obtain ⟨ho1, ho2⟩ := HF1.out
  dsimp only at ho1 ho2
  subst ho1
  replace hB3 := Sl.keep hB3 hkW8 fun _ _ _ h => h
  replace hB5 := Sl.keep hB5 hkW8 fun _ _ _ h => h
  replace hB7 := Sl.keep hB7 hkW8 fun _ _ _ h => h
  replace hkA := hkA.trans' hkW8
  clear hf hkW8 hBW8 hzW8 HF1
  refine hor.mono ?_
  clear hor
  rintro e w9 ⟨vo, ps, rfl, hvo, hus, k9⟩
  replace hB3 := Sl.keep hB3 k9 fun _ _ _ h => h
  replace hB5 := Sl.keep hB5 k9 fun _ _ _ h => h
  replace hB7 := Sl.keep hB7 k9 fun _ _ _ h => h
  replace hkA := hkA.trans' k9
  have hl2 : ol.length = 2 := by rw [← List.length_map (f := fun u : BS × Im => u.2.bytes), ho2]; rfl
  obtain ⟨g, off, c, vb, rfl, q1, qc, _, hg, hb1⟩ := us_bytes hvo hus (i := 1) (b := xa) (by rw [ho2]; rfl)
  rw [hl2] at qc ⊢
  replace q1 : w9.cell? ⟨g, off + 23, none⟩ = some vb := by rw [← q1, Nat.add_assoc]
  replace hb1 : Bts (fun _ => True) w9 vb xa := Sl.mono hb1 fun _ _ _ => trivial
  clear hvo hus ho2 hl2 k9
  go_wp2_with fail
  have hkW10 : Keep No w9 (w9.alloc (.cells #[.string ⟨#[109]⟩, .slice a7 n7 c7, .string ⟨#[120]⟩, .slice a5 n5 c5, .string ⟨#[120]⟩, .slice a3 n3 c3] 29)) := (Keep.refl _ _).alloc _
  have hBW10 : Blk (w9.alloc (.cells #[.string ⟨#[109]⟩, .slice a7 n7 c7, .string ⟨#[120]⟩, .slice a5 n5 c5, .string ⟨#[120]⟩, .slice a3 n3 c3] 29)) w9.heap.size #[.string ⟨#[109]⟩, .slice a7 n7 c7, .string ⟨#[120]⟩, .slice a5 n5 c5, .string ⟨#[120]⟩, .slice a3 n3 c3] 29 := Blk.new _ _ _
  have hzW10 : (w9.alloc (.cells #[.string ⟨#[109]⟩, .slice a7 n7 c7, .string ⟨#[120]⟩, .slice a5 n5 c5, .string ⟨#[120]⟩, .slice a3 n3 c3] 29)).heap.size = w9.heap.size + 1 := World.size_alloc _ _
  generalize w9.alloc (.cells #[.string ⟨#[109]⟩, .slice a7 n7 c7, .string ⟨#[120]⟩, .slice a5 n5 c5, .string ⟨#[120]⟩, .slice a3 n3 c3] 29) = W10 at *
  have hf : FlO W10 w9.heap.size 29 2 encP (.slice (some ⟨w9.heap.size, 0, none⟩) 3 3) [(.string ⟨#[109]⟩, .slice a7 n7 c7), (.string ⟨#[120]⟩, .slice a5 n5 c5), (.string ⟨#[120]⟩, .slice a3 n3 c3)] :=
    own_blk hBW10 (Nat.le_refl _) (n := 3) (size := 2) rfl (by unfold maxLen; omega)
  have hor := clorder_any (w := W10) [109] (by decide) (fir_own (fs := [([109], xm), ([120], xb), ([120], xa)]) hf rfl
      (fir_one (fok (n := [109]) (Sl.keep hB7 hkW10 fun _ _ _ h => h)) (fir_one (fok (n := [120]) (Sl.keep hB5 hkW10 fun _ _ _ h => h)) (fir_one (fok (n := [120]) (Sl.keep hB3 hkW10 fun _ _ _ h => h)) fir_no))))
    (fun f hf => by
      simp only [List.mem_cons, List.not_mem_nil, or_false] at hf
      rcases hf with rfl | rfl | rfl
      · exact HLM.out
      · exact HLB.out
      · exact HLA.out)
  generalize orderM [109] [([109], xm), ([120], xb), ([120], xa)] = o at *
  obtain ⟨oe, ol⟩ := o
  obtain ⟨ho1, ho2⟩ := HF2.out
  dsimp only at ho1 ho2
  subst ho1
  replace hB3 := Sl.keep hB3 hkW10 fun _ _ _ h => h
  replace hB5 := Sl.keep hB5 hkW10 fun _ _ _ h => h
  replace hB7 := Sl.keep hB7 hkW10 fun _ _ _ h => h
  replace hb1 := Sl.keep hb1 hkW10 fun _ _ _ h => h
  replace q1 := (hkW10.cell (p := ⟨g, off + 23, none⟩) hg fun h => h).trans q1
  have hg10 : g < W10.heap.size := by omega
  replace hkA := hkA.trans' hkW10
  clear hf hkW10 hBW10 hzW10 HF2
  refine hor.mono ?_
  clear hor
  rintro e w11 ⟨vo, ps, rfl, hvo, hus, k11⟩
  replace hB3 := Sl.keep hB3 k11 fun _ _ _ h => h
  replace hB5 := Sl.keep hB5 k11 fun _ _ _ h => h
  replace hB7 := Sl.keep hB7 k11 fun _ _ _ h => h
  replace hb1 := Sl.keep hb1 k11 fun _ _ _ h => h
  replace q1 := (k11.cell (p := ⟨g, off + 23, none⟩) hg10 fun h => h).trans q1
  have hg11 := Nat.lt_of_lt_of_le hg10 k11.size
  replace hkA := hkA.trans' k11
  have hl2 : ol.length = 2 := by rw [← List.length_map (f := fun u : BS × Im => u.2.bytes), ho2]; rfl
  obtain ⟨g2, off2, c2, vb2, rfl, q2, qc2, _, hg2, hb2⟩ := us_bytes hvo hus (i := 1) (b := xb) (by rw [ho2]; rfl)
  rw [hl2] at qc2 ⊢
  replace q2 : w11.cell? ⟨g2, off2 + 23, none⟩ = some vb2 := by rw [← q2, Nat.add_assoc]
  replace hb2 : Bts (fun _ => True) w11 vb2 xb := Sl.mono hb2 fun _ _ _ => trivial
  clear hvo hus ho2 hl2 k11 hg hg10
  go_wp2_with fail
  have hkW12 : Keep No w11 (w11.alloc (.cells #[.string ⟨#[109]⟩, .slice none 0 0, .string ⟨#[109]⟩, .slice a7 n7 c7, .string ⟨#[120]⟩, .slice a3 n3 c3] 29)) := (Keep.refl _ _).alloc _
  have hBW12 : Blk (w11.alloc (.cells #[.string ⟨#[109]⟩, .slice none 0 0, .string ⟨#[109]⟩, .slice a7 n7 c7, .string ⟨#[120]⟩, .slice a3 n3 c3] 29)) w11.heap.size #[.string ⟨#[109]⟩, .slice none 0 0, .string ⟨#[109]⟩, .slice a7 n7 c7, .string ⟨#[120]⟩, .slice a3 n3 c3] 29 := Blk.new _ _ _
  have hzW12 : (w11.alloc (.cells #[.string ⟨#[109]⟩, .slice none 0 0, .string ⟨#[109]⟩, .slice a7 n7 c7, .string ⟨#[120]⟩, .slice a3 n3 c3] 29)).heap.size = w11.heap.size + 1 := World.size_alloc _ _
  generalize w11.alloc (.cells #[.string ⟨#[109]⟩, .slice none 0 0, .string ⟨#[109]⟩, .slice a7 n7 c7, .string ⟨#[120]⟩, .slice a3 n3 c3] 29) = W12 at *
  have hf : FlO W12 w11.heap.size 29 2 encP (.slice (some ⟨w11.heap.size, 0, none⟩) 3 3) [(.string ⟨#[109]⟩, .slice none 0 0), (.string ⟨#[109]⟩, .slice a7 n7 c7), (.string ⟨#[120]⟩, .slice a3 n3 c3)] :=
    own_blk hBW12 (Nat.le_refl _) (n := 3) (size := 2) rfl (by unfold maxLen; omega)
  have hor := clorder_any (w := W12) [109] (by decide) (fir_own (fs := [([109], []), ([109], xm), ([120], xa)]) hf rfl
      (fir_one (fok (A := fun _ => True) (n := [109]) (Sl.nil _ _ _)) (fir_one (fok (n := [109]) (Sl.keep hB7 hkW12 fun _ _ _ h => h)) (fir_one (fok (n := [120]) (Sl.keep hB3 hkW12 fun _ _ _ h => h)) fir_no))))
    (fun f hf => by
      simp only [List.mem_cons, List.not_mem_nil, or_false] at hf
      rcases hf with rfl | rfl | rfl
      · exact Nat.zero_le _
      · exact HLM.out
      · exact HLA.out)
  have ho := HF3.out
  generalize orderM [109] [([109], []), ([109], xm), ([120], xa)] = o at *
  obtain ⟨oe, ol⟩ := o
  dsimp only at ho
  subst ho
  have k1112 := hkW12
  clear hf hBW12 hzW12 HF3 hB7
  refine hor.mono ?_
  clear hor
  rintro e w13 ⟨vo3, ps3, rfl, hvo3, hus3, k13⟩
  have k := k1112.trans' k13
  replace hB3 := Sl.keep hB3 k fun _ _ _ h => h
  replace hB5 := Sl.keep hB5 k fun _ _ _ h => h
  replace hb1 := Sl.keep hb1 k fun _ _ _ h => h
  replace hb2 := Sl.keep hb2 k fun _ _ _ h => h
  replace q1 := (k.cell (p := ⟨g, off + 23, none⟩) hg11 fun h => h).trans q1
  replace q2 := (k.cell (p := ⟨g2, off2 + 23, none⟩) hg2 fun h => h).trans q2
  replace hkA := hkA.trans' k
  obtain ⟨ao3, no3, co3, rfl⟩ : ∃ a n c, vo3 = .slice a n c := by
    obtain ⟨a, c, e, _⟩ := hvo3.shape
    exact ⟨_, _, _, e⟩
  have hc1 := fun n => conv_str (w := w13.drewN n) hb1
  have hc2 := fun n => conv_str (w := w13.drewN n) hB3
  have hc3 := fun n => conv_str (w := w13.drewN n) hb2
  have hc4 := fun n => conv_str (w := w13.drewN n) hB5
  obtain ⟨ab1, nb1, cb1, rfl⟩ : ∃ a n c, vb = .slice a n c := by
    obtain ⟨a, c, e, _⟩ := Sl.shape hb1
    exact ⟨_, _, _, e⟩
  obtain ⟨ab2, nb2, cb2, rfl⟩ : ∃ a n c, vb2 = .slice a n c := by
    obtain ⟨a, c, e, _⟩ := Sl.shape hb2
    exact ⟨_, _, _, e⟩
  generalize (⟨xa.toArray⟩ : ByteArray) = ba at *
  generalize (⟨xb.toArray⟩ : ByteArray) = bb at *
  clear hvo3 hus3 k13 hg11 hg2 hB3 hB5 hb1 hb2 k k1112 hkW12
  go_upto_region 10 with fail
  go_quiet (fail)
  go_wp2_with fail
  go_ret
  exact ⟨rfl, hkA.drewN _⟩
theorem u8_of {a : Int} (h : (Lit.int .u8 a).wf = true) : ∃ x : UInt8, a = (x.toNat : Int) := by
  simp [Lit.wf, IntKind.min, IntKind.max, IntKind.signed, IntKind.bits] at h
  refine ⟨UInt8.ofNat a.toNat, ?_⟩
  rw [UInt8.toNat_ofNat', Nat.mod_eq_of_lt (by omega)]
  omega
theorem closurefirst_int {a b : Int} (ha : (Lit.int .u8 a).wf = true) (hb : (Lit.int .u8 b).wf = true) : Calls Try.prog 4 #[.int .u8 a, .int .u8 b] w fun e w' => e = .returned (.bool true) ∧ Keep No w w' := by
  obtain ⟨x, rfl⟩ := u8_of ha
  obtain ⟨y, rfl⟩ := u8_of hb
  exact closurefirst_any x y
end
end Go.Proofs.Ytbnahidopemkiaa
namespace Go.Dm.Ld
open Go Go.Dm.Oc
def ltr (x : UInt8) : BS := [UInt8.ofNat (97 + x.toNat % 12)]
def needW (b : BS) : List BS := (b.take 12).map ltr
def kindW (j : Nat) : Int := if j = 0 then 2 else 3
def fileW (nd : List BS) (j : Nat) : BS × BS := ([UInt8.ofNat (97 + j)], (buildM (libSp (kindW j) (needW (nd.getD j [])) [1])).2)
def filesW (nd : List BS) (n : Nat) : Fs := (List.range n).map (fileW nd)
theorem filesW_succ (nd : List BS) (n : Nat) : filesW nd (n + 1) = filesW nd n ++ [fileW nd n] := by
  unfold filesW
  rw [List.range_succ, List.map_append]
  rfl
theorem filesW_len (nd : List BS) (n : Nat) : (filesW nd n).length = n := by
  unfold filesW
  rw [List.length_map, List.length_range]
end Go.Dm.Ld
namespace Go.Proofs.Ytbnahidopemkiaa
open Go.RowKit Go.Dm Go.Dm.Oc Go.Dm.Ld
section
variable {A B : Nat → Prop} {w w1 wr w2 : World} {v v' fv fv' : Value}
theorem rd_bts {x : Value} {b : List UInt8} (h : Rd A w (.slice .u8) [x] b) : Bts A w x b := by
  obtain ⟨v2, css, e, h1, h2, h3⟩ := h
  injection e with e
  subst e
  have hf : css.flatten = b.map bv := by
    clear h1
    induction css generalizing b with
    | nil => rw [List.length_nil] at h2; rw [List.length_eq_zero_iff.1 h2.symm]; rfl
    | cons c r ih =>
      cases b with
      | nil => rw [List.length_cons, List.length_nil] at h2; omega
      | cons y q =>
        have h0 : c = [bv y] := h3 0 c y rfl rfl
        rw [List.flatten_cons, h0, ih (by simpa using h2) fun i c y hc hy => h3 (i + 1) c y hc hy]
        rfl
  rw [hf] at h1
  exact h1
theorem rd_bb {nd : List (List UInt8)} (h : Rd A w (.slice (.slice .u8)) [v] nd) : ∃ a c, v = .slice a nd.length c ∧ nd.length ≤ c ∧ c ≤ maxLen ∧
    ∀ i, i < nd.length → ∃ g off x, a = some ⟨g, off, none⟩ ∧ w.cell? ⟨g, off + i, none⟩ = some x ∧ g < w.heap.size ∧ Bts A w x (nd.getD i []) := by
  obtain ⟨v2, css, e, h1, h2, h3⟩ := h
  injection e with e
  subst e
  have h4 : ∀ i, i < css.length → ∃ x, css[i]? = some [x] ∧ Bts A w x (nd.getD i []) := fun i hi => by
    have hc := List.getElem?_eq_getElem hi
    have hn : nd[i]? = some (nd.getD i []) := by
      rw [List.getD_eq_getElem?_getD, List.getElem?_eq_getElem (by omega)]
      rfl
    have h5 := h3 i _ _ hc hn
    obtain ⟨x, css2, e, h6⟩ := h5
    have h7 := h3 i _ _ hc hn
    rw [e] at h7 hc
    exact ⟨x, hc, rd_bts h7⟩
  have hfl : ∀ i, i < css.length → ∃ x, css.flatten[i]? = some x ∧ Bts A w x (nd.getD i []) := fun i hi => by
    obtain ⟨x, hx, hb⟩ := h4 i hi
    refine ⟨x, ?_, hb⟩
    have h8 : ∀ c ∈ css, ∃ y, c = [y] := fun c hc => by
      obtain ⟨j, hj, e⟩ := List.mem_iff_getElem.1 hc
      obtain ⟨y, hy, _⟩ := h4 j hj
      rw [List.getElem?_eq_getElem hj] at hy
      injection hy with hy
      exact ⟨y, e ▸ hy⟩
    clear h1 h2 h3 h4 hb
    induction css generalizing i with
    | nil => simp at hi
    | cons c r ih =>
      obtain ⟨y, rfl⟩ := h8 c (List.mem_cons_self ..)
      cases i with
      | zero => injection hx with hx; injection hx with hx; subst hx; rfl
      | succ i => exact ih i (by simpa using hi) hx fun c hc => h8 c (List.mem_cons_of_mem _ hc)
  obtain ⟨a, c, e, hc1, hc2⟩ := Sl.shape h1
  refine ⟨a, c, e, hc1, hc2, fun i hi => ?_⟩
  obtain ⟨x, hx, hb⟩ := hfl i (by omega)
  obtain ⟨_, a2, c3, e2, _, _, _, hr⟩ := h1
  rw [e] at e2
  injection e2 with q1 q2 q3
  subst q1
  obtain ⟨g, off, e3, _, hg, hcell⟩ := hr (by
    have : (Sh.slice Sh.u8).n = 1 := rfl
    omega)
  exact ⟨g, off, x, e3, hcell i x hx, hg, hb⟩
/-- the files that are made -/
structure FsS (w1 wr : World) (fv : Value) (ps : List (Value × Value)) (fs : Fs) : Prop where
  row : FlO wr w1.heap.size 29 2 encP fv ps
  len : ps.length = fs.length
  ok : ∀ (i : Nat) (p : Value × Value) (f : BS × BS), ps[i]? = some p → fs[i]? = some f → FileOk (fun k => w1.heap.size ≤ k ∧ some k ≠ fv.ownBlock) wr p f
  kept : Keep (fun j => w1.heap.size ≤ j) w1 wr
theorem FsS.keep {ps : List (Value × Value)} {fs : Fs} (h : FsS w1 wr fv ps fs) (hk : Keep (fun j => wr.heap.size ≤ j) wr w2) : FsS w1 w2 fv ps fs :=
  ⟨h.row.same fun g hg => hk.block g (World.ownsRow.lt h.row g hg).2 fun e => absurd (World.ownsRow.lt h.row g hg).2 (Nat.not_lt.2 e), h.len,
   fun i p f hp hf => ⟨(h.ok i p f hp hf).1, Sl.keep (h.ok i p f hp hf).2 hk fun j hj _ e => absurd hj (Nat.not_lt.2 e)⟩, h.kept.trans hk fun j hj e => Nat.le_trans h.kept.size e⟩
theorem FsS.push {ps : List (Value × Value)} {fs : Fs} {p : Value × Value} {f : BS × BS} (h : FsS w1 wr fv ps fs) (ho : FlO w2 w1.heap.size 29 2 encP fv' (ps ++ [p])) (hk : Keep (fun j => some j = fv.ownBlock) wr w2)
    (hn : fv'.ownBlock = fv.ownBlock ∨ fv'.ownBlock = some (wr.heap.size + 1)) (hf : FileOk (fun k => w1.heap.size ≤ k ∧ some k ≠ fv.ownBlock ∧ k < wr.heap.size) wr p f) : FsS w1 w2 fv' (ps ++ [p]) (fs ++ [f]) := by
  have hA : ∀ {x : Value} {b : BS}, Bts (fun k => w1.heap.size ≤ k ∧ some k ≠ fv.ownBlock) wr x b → Bts (fun k => w1.heap.size ≤ k ∧ some k ≠ fv'.ownBlock) w2 x b := fun {x b} hb => by
    have h2 := Sl.keep (Sl.mono (B := fun k => (w1.heap.size ≤ k ∧ some k ≠ fv.ownBlock) ∧ k < wr.heap.size) hb fun k hk ha => ⟨ha, hk⟩) hk fun j _ ha e => ha.1.2 e
    refine Sl.mono h2 fun k _ ha => ⟨ha.1.1, fun e => ?_⟩
    rcases hn with e2 | e2
    · exact ha.1.2 (e.trans e2)
    · rw [e2] at e
      injection e with e
      have := ha.2
      omega
  refine ⟨ho, by rw [List.length_append, List.length_append, h.len]; rfl, fun i q g hq hg => ?_, h.kept.trans hk fun j hj e => (World.ownsRow.lt h.row j e.symm).1⟩
  rcases Nat.lt_or_ge i ps.length with hi | hi
  · rw [List.getElem?_append_left hi] at hq
    rw [List.getElem?_append_left (by rw [← h.len]; exact hi)] at hg
    exact ⟨(h.ok i q g hq hg).1, hA (h.ok i q g hq hg).2⟩
  · rw [List.getElem?_append_right hi] at hq
    rw [List.getElem?_append_right (by rw [← h.len]; exact hi), ← h.len] at hg
    obtain ⟨hi2, hqe⟩ := List.getElem?_eq_some_iff.1 hq
    have h0 : i - ps.length = 0 := by simpa using hi2
    rw [h0] at hq hg
    cases hq
    cases hg
    exact ⟨hf.1, hA (Sl.mono hf.2 fun k _ ha => ⟨ha.1, ha.2.1⟩)⟩
end
end Go.Proofs.Ytbnahidopemkiaa
namespace Go.Dm.Ld
open Go
def nmAt (us : List (BS × Im)) (i : Nat) : BS := (us.getD i ([], im0)).1
def ndAt (us : List (BS × Im)) (i : Nat) : List BS := (us.getD i ([], im0)).2.need
/-- is the unit i needed by one of the first k that stands ahead of it? -/
def aheadB (us : List (BS × Im)) (i k : Nat) : Bool := decide (i = 0) || (List.range k).any fun j => decide (j < i) && (ndAt us j).any (· == nmAt us i)
/-- is there a unit of this name among the first k? -/
def thereB (us : List (BS × Im)) (n : BS) (k : Nat) : Bool := (List.range k).any fun j => nmAt us j == n
theorem aheadB_succ (us : List (BS × Im)) (i k : Nat) : aheadB us i (k + 1) = (aheadB us i k || (decide (k < i) && (ndAt us k).any (· == nmAt us i))) := by
  unfold aheadB
  rw [List.range_succ, List.any_append, Bool.or_assoc]
  simp
theorem thereB_succ (us : List (BS × Im)) (n : BS) (k : Nat) : thereB us n (k + 1) = (thereB us n k || nmAt us k == n) := by
  unfold thereB
  rw [List.range_succ, List.any_append]
  simp
theorem nmAt_get {us : List (BS × Im)} {i : Nat} (h : i < us.length) : us[i]? = some (us.getD i ([], im0)) := by
  rw [List.getD_eq_getElem?_getD, List.getElem?_eq_getElem h]
  rfl
theorem WhO.ahead {us : List (BS × Im)} (h : WhO us) {i : Nat} (hi : i < us.length) : aheadB us i us.length = true := by
  unfold aheadB
  rcases Nat.eq_zero_or_pos i with h0 | h0
  · rw [decide_eq_true h0]; rfl
  · obtain ⟨k, v, hk, hv, hm⟩ := h.by_ i _ (nmAt_get hi) h0
    rw [Bool.or_eq_true]
    refine .inr (List.any_eq_true.2 ⟨k, List.mem_range.2 (by omega), ?_⟩)
    rw [Bool.and_eq_true, decide_eq_true_eq]
    refine ⟨hk, List.any_eq_true.2 ⟨_, ?_, beq_self_eq_true _⟩⟩
    have e : us.getD k ([], im0) = v := by
      rw [List.getD_eq_getElem?_getD, hv]
      rfl
    show nmAt us i ∈ (us.getD k ([], im0)).2.need
    rw [e]
    exact hm
theorem WhO.there {us : List (BS × Im)} (h : WhO us) {i : Nat} (hi : i < us.length) {n : BS} (hn : n ∈ ndAt us i) : thereB us n us.length = true := by
  have hu : us.getD i ([], im0) ∈ us := (List.mem_iff_getElem?.2 ⟨i, nmAt_get hi⟩)
  obtain ⟨v, hv, e⟩ := h.all _ hu n hn
  obtain ⟨k, hk⟩ := List.mem_iff_getElem?.1 hv
  obtain ⟨hkl, _⟩ := List.getElem?_eq_some_iff.1 hk
  unfold thereB
  refine List.any_eq_true.2 ⟨k, List.mem_range.2 hkl, ?_⟩
  unfold nmAt
  rw [List.getD_eq_getElem?_getD, hk]
  show (v.1 == n) = true
  rw [e]
  exact beq_self_eq_true _
theorem WhO.apart {us : List (BS × Im)} (h : WhO us) {i k : Nat} (hi : i < us.length) (hk : k < us.length) (hne : k ≠ i) : (nmAt us k == nmAt us i) = false := by
  rw [beq_eq_false_iff_ne]
  intro e
  have h1 : (us.map (·.1))[k]? = some (nmAt us k) := by rw [List.getElem?_map, nmAt_get hk]; rfl
  have h2 : (us.map (·.1))[i]? = some (nmAt us i) := by rw [List.getElem?_map, nmAt_get hi]; rfl
  rw [← e] at h2
  obtain ⟨g1, e1⟩ := List.getElem?_eq_some_iff.1 h1
  obtain ⟨g2, e2⟩ := List.getElem?_eq_some_iff.1 h2
  have hp := List.pairwise_iff_getElem.1 h.nd
  rcases Nat.lt_or_gt_of_ne hne with hlt | hlt
  · exact hp k i g1 g2 hlt (e1.trans e2.symm)
  · exact hp i k g2 g1 hlt (e2.trans e1.symm)
end Go.Dm.Ld
