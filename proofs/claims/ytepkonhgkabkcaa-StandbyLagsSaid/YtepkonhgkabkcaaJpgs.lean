/- Package judge: Pages, of one page; Commits. No condition. -/
import Derived.Test.YtepkonhgkabkcaaJrep
namespace Go.Proofs.Ytepkonhgkabkcaa
open Go.RowKit Go.Maps MapI
set_option linter.unusedVariables false
set_option linter.unusedSimpArgs false

def stO : JSt := { st0 with out := some [⟨0, zeros⟩] }
theorem runJ_out_len : ∀ (l : List En) (s : JSt) (n : Nat), (∃ ps, s.out = some ps ∧ ps.length = n) → ∃ ps, (runJ s l).out = some ps ∧ ps.length = n
  | [], s, n, h => h
  | x :: r, s, n, h => by
    refine runJ_out_len r (stepJ s x).1 n ?_
    obtain ⟨ps, h1, h2⟩ := h
    unfold stepJ entryJ
    split
    · unfold ownJ
      have h3 : (lastJ s x.1).out = some ps := h1
      split
      · exact ⟨ps, h3, h2⟩
      · split
        · exact ⟨ps, h3, h2⟩
        · split
          · exact ⟨ps, h3, h2⟩
          · exact ⟨_, by show (lastJ s x.1).out.map _ = _; rw [h3]; rfl, by rw [fold_length]; exact h2⟩
    · split
      · exact ⟨ps, h1, h2⟩
      · split
        · exact ⟨ps, h1, h2⟩
        · exact ⟨ps, h1, h2⟩
def PagesPost (w : World) (es : List En) (e : Ending) (w' : World) : Prop :=
  ∃ g cap p, e = .returned (.slice (some ⟨g, 0, none⟩) 1 cap) ∧ (runJ stO es).out = some [p] ∧ w'.cell? ⟨g, 0, none⟩ = some (.string p.data) ∧ w.heap.size ≤ g ∧ g < w'.heap.size ∧ Below w.heap.size w w'
theorem infoStr : (Try.prog.info? 9).map (fun i => (i.zero, i.size, i.bytes)) = some (some (.string ⟨#[]⟩), 1, 16) := by kernel_rfl
theorem Cut.low {w : World} {B B' : Nat} {e : TypeId} {s : Nat} {v : Value} {n : Nat} {xs : List Value} (h : Cut w B e s v n xs) (hB : B' ≤ B) : Cut w B' e s v n xs := by
  rcases h with h | ⟨h1, g, cur, h2, h3, h4, h5, h6⟩
  · refine .inl ⟨h.1, ?_⟩
    rcases h.2 with h2 | ⟨g, cap, cur, h2, h3, h4⟩
    · exact .inl h2
    · exact .inr ⟨g, cap, cur, h2, Nat.le_trans hB h3, h4⟩
  · exact .inr ⟨h1, g, cur, h2, Nat.le_trans hB h3, h4, h5, h6⟩
theorem Jud.low {w : World} {B B' jb mb gb : Nat} {l : List (Int × JEnt)} {fv : Value} {s : JSt} (h : Jud w B jb mb gb l fv s) (hB : B' ≤ B) : Jud w B' jb mb gb l fv s := by
  refine ⟨Nat.le_trans hB h.hB, Nat.le_trans hB h.hmb, Nat.le_trans hB h.hgb, h.hmg, h.blk, h.map, h.beg, ⟨fun p hp => ?_, h.ents.apart⟩, h.opn, ?_⟩
  · have he := h.ents.ent p hp
    exact ⟨Nat.le_trans hB he.ge, he.blk, he.own.low hB, he.ok⟩
  · have ho := h.out
    cases hs : s.out with
    | none => rw [hs] at ho; exact ho
    | some ps =>
      rw [hs] at ho
      obtain ⟨cb, ob, cap, cs, h1, h2, h3, h4⟩ := ho
      exact ⟨cb, ob, cap, cs, h1, Nat.le_trans hB h2, Nat.le_trans hB h3, h4⟩
/-- The judge is given another function to call at a commit. -/
theorem Jud.hear {w : World} {B jb mb gb : Nat} {l : List (Int × JEnt)} {fv fv' : Value} {s : JSt} (h : Jud w B jb mb gb l fv s) {o : Option (List Pg)} (ho : OutIs w B fv' o) :
    Jud (w.setCell ⟨jb, 19, none⟩ fv') B jb mb gb l fv' { s with out := o } ∧ Below B w (w.setCell ⟨jb, 19, none⟩ fv') := by
  obtain ⟨cs, hjb, j0, j1, jp, j18, j19⟩ := h.blk.cs
  have hg : ∀ k, k < w.heap.size → k ≠ jb → (w.setCell ⟨jb, 19, none⟩ fv').heap[k]? = w.heap[k]? := fun k _ h1 => Below.heap_setCell _ _ _ _ h1
  obtain ⟨es, c, hm⟩ := h.map.heap
  obtain ⟨es', c', hm'⟩ := h.beg.heap
  have hl := h.blk.len
  have h19 := (Array.getElem?_eq_some_iff.1 j19).1
  refine ⟨⟨h.hB, h.hmb, h.hgb, h.hmg, ⟨⟨_, setCell_block _ _ _ _ hjb, ?_, ?_, fun i p hp => ⟨?_, ?_⟩, ?_, ?_⟩, hl⟩, h.map.of_block (hg _ h.map.lt (map_ne hm hjb).symm), h.beg.of_block (hg _ h.beg.lt (map_ne hm' hjb).symm), h.ents.typed (typed_but hjb (by decide) hg), h.opn, ho.typed (typed_but hjb (by decide) hg)⟩, (Below.refl _ _).setCell h.hB _⟩
  · rw [Array.getElem?_setIfInBounds_ne (by omega)]; exact j0
  · rw [Array.getElem?_setIfInBounds_ne (by omega)]; exact j1
  · have : i < s.pages.length := (List.getElem?_eq_some_iff.1 hp).1
    rw [Array.getElem?_setIfInBounds_ne (by omega)]; exact (jp i p hp).1
  · have : i < s.pages.length := (List.getElem?_eq_some_iff.1 hp).1
    rw [Array.getElem?_setIfInBounds_ne (by omega)]; exact (jp i p hp).2
  · rw [Array.getElem?_setIfInBounds_ne (by omega)]; exact j18
  · rw [Array.getElem?_setIfInBounds_self_of_lt h19]
set_option maxHeartbeats 2000000 in
set_option maxRecDepth 100000 in
theorem pages_one {w : World} {A : Option Addr} {b o c : Nat} {es : List En} (hL : Lst w A b o es) (hok : ∀ x ∈ es, EnOk x) (hlen : es.length ≤ 100000) :
    Calls Try.prog 49 #[.slice A es.length c, .int .i64 1] w (PagesPost w es) := by
  obtain ⟨i0, hi, hz0, hz1, hz2⟩ := info_parts infoStr
  go_enter Try.func49, Try.ntmps49
  go_wp2_with (first
    | (go_at_call 86; refine (empty_calls _).mono ?_; rintro e w1 ⟨rfl, b1⟩; obtain ⟨m0, m1, n0, n1⟩ := page_blk (heap_alloc_new w1 (.cells #[.int .i64 0, .string zeros] 56)))
    | (go_at_call 85; refine (repeat_one (p := ⟨0, zeros⟩) m0 m1).mono ?_; rintro e w2 ⟨rfl, hg2, b2⟩)
    | (go_at_call 53; refine (begin_calls _).mono ?_; rintro e w3 ⟨rfl, hJ, b3⟩; obtain ⟨l3, hJd⟩ := hJ; obtain ⟨cs3, hjb3, -, -, -, -, k19⟩ := hJd.blk.cs; have q19 := (cell_of_block hjb3 19).trans k19; have f19 := frozen_of_block hjb3 19; simp only [World.size_alloc] at q19 f19))
  have z1 := b1.size
  have hw1 : w1.heap.size + 1 ≤ w2.heap.size := by have := b2.size; simpa using this
  have hob2 : w1.heap.size + 1 < w2.heap.size := by have := lt_of_block hg2; simpa using this
  have hBw : Below w.heap.size w w3 := ((b1.trans ((Below.refl w.heap.size w1).alloc z1 _)).trans (b2.mono (by simp; omega))).trans (((Below.refl w.heap.size w2).alloc (by omega) _).trans (b3.mono (by simp; omega)))
  have hcb : w3.heap[w2.heap.size]? = some (.cells #[.slice (some ⟨w1.heap.size + 1, 0, none⟩) 1 1] 63 (0, 0)) := (b3.block _ (by simp)).trans (heap_alloc_new _ _)
  have hob : w3.heap[w1.heap.size + 1]? = some (.cells #[.int .i64 0, .string zeros] 56 (0, 0)) := (b3.block _ (by simp; omega)).trans ((Below.heap_alloc _ _ _ (by omega)).trans (by simpa using hg2))
  have hout : OutIs w3 w.heap.size (.func (.func 99) #[] #[.pointer (some ⟨w2.heap.size, 0, none⟩)]) (some [⟨0, zeros⟩]) := by
    refine ⟨w2.heap.size, w1.heap.size + 1, 1, _, rfl, by omega, by omega, hcb, hob, fun i p hp => ?_⟩
    match i, hp with
    | 0, hp => simp at hp; subst hp; exact ⟨rfl, rfl⟩
    | i + 1, hp => simp at hp
  obtain ⟨hJ4, b4⟩ := (hJd.low (B' := w.heap.size) (by simp; omega)).hear hout
  simp only [World.size_alloc] at hJ4 b4
  have hB4 := hBw.trans b4
  have HJ4 := Lib.hid (show JAt _ w.heap.size _ _ _ _ stO from ⟨l3, hJ4⟩)
  have HB4 := Lib.hid hB4
  clear hJ4 b4 hBw hout hcb hob hJd hB4 b3 b2 b1 hg2 m0 m1 n0 n1 hjb3 k19
  have hst : (store ⟨w2.heap.size + 1 + 2, 19, none⟩ (.func (.func 99) #[] #[.pointer (some ⟨w2.heap.size, 0, none⟩)])).run Try.prog w3 = .ok () (w3.setCell ⟨w2.heap.size + 1 + 2, 19, none⟩ (.func (.func 99) #[] #[.pointer (some ⟨w2.heap.size, 0, none⟩)])) := by
    rw [run_store Try.prog _ _ _ _ rfl, q19]; simp [f19]
  rw [hst]
  go_wp2_with fail
  go_loopg [27] es.length (fun k iv wr => ∃ i : Nat, i + k = es.length ∧ iv = .int .i64 i ∧ JAt wr w.heap.size (w2.heap.size + 1 + 2) (w2.heap.size + 1) (w2.heap.size + 1 + 1) (.func (.func 99) #[] #[.pointer (some ⟨w2.heap.size, 0, none⟩)]) (runJ stO (es.take i)) ∧ Below w.heap.size w wr)
  case atStart => exact ⟨0, by omega, rfl, HJ4.out, HB4.out⟩
  case round =>
    obtain ⟨wo, rfl⟩ : ∃ wo : World, wo = wr := ⟨_, rfl⟩
    obtain ⟨ko, rfl⟩ : ∃ ko : Nat, ko = gk := ⟨_, rfl⟩
    obtain ⟨i, hin, rfl, hJo, hbo⟩ := hrel
    by_cases hlt : i < es.length
    · have hA := hL.addr (Lst.ne hlt)
      subst hA
      have hb := hL.lt (Lst.ne hlt)
      have h := hL.at_
      obtain ⟨x, hx⟩ : ∃ x, es[i]? = some x := ⟨_, List.getElem?_eq_getElem hlt⟩
      have hxo := hok x (List.mem_of_getElem? hx)
      have hEa : EntAt wo b (o + i * 12) x.1 x.2 := (h i x hx).of_block (hbo.block _ hb)
      have hz := hbo.size
      have hsm : Small (runJ stO (es.take i)) 100000 := (run_small (es.take i) (s := stO) (i := 0) ⟨small0.opn, small0.begun, small0.stand⟩).mono (by simp; omega)
      have htk : es.take (i + 1) = es.take i ++ [x] := by rw [List.take_add_one, hx]; rfl
      have HC := Lib.hid (entry_calls hJo hz hEa hb hxo.rec_ hxo.wf hsm)
      have e2 : runJ stO (es.take (i + 1)) = (entryJ (runJ stO (es.take i)) x.1 x.2).1 := by rw [htk, runJ_snoc]; rfl
      have b2 : (0 : Int) ≤ (i : Int) := by omega
      have b3 : (i : Int) < (es.length : Int) := by omega
      have HE2 := Lib.hid e2
      clear e2 hx htk hJo
      go_wp2_with (first | (go_at_call 54; refine HC.out.mono ?_; rintro e w5 ⟨rfl, hJ2, hf2⟩))
      go_roundg (ko - 1)
      case measure => omega
      case rel => exact ⟨i + 1, by omega, by go_num, by rw [HE2.out]; exact hJ2, hbo.trans hf2.toBelow⟩
    · have hi2 : i = es.length := by omega
      subst hi2
      rw [List.take_of_length_le (Nat.le_refl _)] at hJo
      obtain ⟨l, hJd⟩ := hJo
      obtain ⟨ps, hps, hpl⟩ := runJ_out_len es stO 1 ⟨_, rfl, rfl⟩
      obtain ⟨p, rfl⟩ : ∃ p, ps = [p] := by
        match ps, hpl with
        | [p], _ => exact ⟨p, rfl⟩
      have ho := hJd.out
      rw [hps] at ho
      obtain ⟨cb, ob, cap, cs, hfv, hcB, hoB, hcb, hob, hpi⟩ := ho
      have hcbe : cb = w2.heap.size := by injection hfv with _ _ h3; simpa using h3.symm
      subst hcbe
      have q1 : wo.cell? ⟨w2.heap.size, 0, none⟩ = some (.slice (some ⟨ob, 0, none⟩) 1 cap) := (cell_of_block hcb 0).trans rfl
      have q2 : wo.cell? ⟨ob, 0, none⟩ = some (.int .i64 p.place) := (cell_of_block hob 0).trans (hpi 0 p rfl).1
      have q3 : wo.cell? ⟨ob, 1, none⟩ = some (.string p.data) := (cell_of_block hob 1).trans (hpi 0 p rfl).2
      have hz := hbo.size
      have HP := Lib.hid hps
      clear hJd hps hpi hfv hcb hob
      go_wp2_with fail
      refine wp_loop_rounds 2 ?_
      rw [rounds_succ]
      go_wp2_with (at_builtin; refine wpList_append_lies _ rfl (.tmp 42) (.tmp 45) 66 rfl w.heap.size 9 i0 (.string ⟨#[]⟩) 1 16 Try.underlying66 hi hz0 hz1 hz2 rfl (by decide) _ _ _ rfl (World.ownsRow_nil _ w.heap.size _ _) ⟨wo.heap.size + 1, 0, none⟩ 1 1 [.string p.data] rfl rfl (World.news_of_block (by rw [← World.size_alloc wo (.cells #[.int .i64 p.place, .string p.data] 56)]; exact heap_alloc_new _ _)) (by simp [Value.oneCell']) (by decide) (by unfold maxLen; omega) (by omega) (by simp; omega) _ rfl ?_; intro g2 cap2 w5 hown2 hg2 hat2 hlt3)
      rw [rounds_succ]
      go_wp2_with fail
      go_ret
      refine ⟨g2, cap2, p, rfl, HP.out, ?_, (hown2.lt g2 rfl).1, hlt3, ?_⟩
      · have := hown2.cells (g := g2) rfl 0 (.string p.data) rfl
        simpa [Addr.add] using this
      · refine hbo.trans ?_
        have h9 : Below w.heap.size wo ((wo.alloc (.cells #[.int .i64 p.place, .string p.data] 56)).alloc (.cells #[.string p.data] 9)) := ((Below.refl _ _).alloc hz _).alloc (by simp; omega) _
        exact h9.grown hg2 (by simp; omega) (fun k hk => nomatch hk)
end Go.Proofs.Ytepkonhgkabkcaa
