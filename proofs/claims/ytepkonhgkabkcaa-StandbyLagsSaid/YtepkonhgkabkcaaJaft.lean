/- Package judge: what is called where a transaction commits. No condition. -/
import Derived.Test.YtepkonhgkabkcaaJown
namespace Go.Proofs.Ytepkonhgkabkcaa
open Go.RowKit Go.Maps MapI
set_option linter.unusedVariables false
set_option linter.unusedSimpArgs false
theorem stand_fold (ps : List Pg) (l : List Rc) (k : Nat) {r : Rc} (h : l[k]? = some r) : (l.take (k + 1)).foldl setPg ps = setPg ((l.take k).foldl setPg ps) r := by
  have hk := (List.getElem?_eq_some_iff.1 h).1
  rw [List.take_add_one, h]
  simp [List.foldl_append]
theorem fold_length (l : List Rc) : ∀ ps : List Pg, (l.foldl setPg ps).length = ps.length := by
  induction l with
  | nil => intro ps; rfl
  | cons r t ih => intro ps; rw [List.foldl_cons, ih, setPg_length]
set_option maxHeartbeats 2000000 in
set_option maxRecDepth 100000 in
theorem after_out {w : World} {B cb ob cap : Nat} {cs : Array Value} {ps : List Pg} {e : JEnt} (he : JEntIs w B e) (hcb : w.heap[cb]? = some (.cells #[.slice (some ⟨ob, 0, none⟩) ps.length cap] 63 (0, 0))) (hob : w.heap[ob]? = some (.cells cs 56 (0, 0))) (hp : PgsIn cs 0 ps) (hlen : e.tx.stand.length ≤ 100000) :
    Calls Try.prog 99 #[.pointer (some ⟨e.blk, 0, none⟩), .pointer (some ⟨cb, 0, none⟩)] w fun x w' => x = .returned (.tuple #[]) ∧ ∃ cs', w'.heap[ob]? = some (.cells cs' 56 (0, 0)) ∧ PgsIn cs' 0 (e.tx.stand.foldl setPg ps) ∧ w.grownBy w' (some ob) := by
  obtain ⟨A1, cap1, hv1, hc1, hc2⟩ := he.own.form
  have c3 : w.cell? ⟨e.blk, 3, none⟩ = some (.slice A1 e.tx.stand.length cap1) := by rw [cell_of_block he.blk]; show some e.sv = _; rw [hv1]
  have q1 : w.cell? ⟨cb, 0, none⟩ = some (.slice (some ⟨ob, 0, none⟩) ps.length cap) := by rw [cell_of_block hcb]; rfl
  go_enter Try.func99, Try.ntmps99
  go_wp2_with fail
  go_loopg [9] (e.tx.stand.length) (fun k iv wr => ∃ (i : Nat) (cs' : Array Value), i + k = e.tx.stand.length ∧ iv = .int .i64 i ∧ wr.heap[ob]? = some (.cells cs' 56 (0, 0)) ∧ PgsIn cs' 0 ((e.tx.stand.take i).foldl setPg ps) ∧ w.grownBy wr (some ob))
  case atStart => exact ⟨0, cs, by omega, rfl, hob, by simpa using hp, rfl, rfl, rfl, Nat.le_refl _, fun _ _ _ => rfl⟩
  case round =>
    obtain ⟨wo, rfl⟩ : ∃ wo : World, wo = wr := ⟨_, rfl⟩
    obtain ⟨ko, rfl⟩ : ∃ ko : Nat, ko = gk := ⟨_, rfl⟩
    obtain ⟨i, cs', hin, rfl, hob', hp', hgr⟩ := hrel
    by_cases hlt : i < e.tx.stand.length
    · obtain ⟨r, hx⟩ : ∃ r, e.tx.stand[i]? = some r := ⟨_, List.getElem?_eq_getElem hlt⟩
      obtain ⟨g, cap2, hv2, -, -⟩ := he.own.formS (by omega)
      have hv3 := hv1.symm.trans hv2
      have hA : A1 = some ⟨g, 0, none⟩ := by injection hv3
      subst hA
      obtain ⟨-, cur, hgb, -⟩ := he.own.block (k := g) (by rw [hv1]; rfl)
      have n1 : e.blk ≠ ob := type_ne hob he.blk (by decide)
      have n2 : cb ≠ ob := type_ne hob hcb (by decide)
      have n3 : g ≠ ob := type_ne hob hgb (by decide)
      have c3' : wo.cell? ⟨e.blk, 3, none⟩ = some (.slice (some ⟨g, 0, none⟩) e.tx.stand.length cap1) := hgr.cell c3 (by simpa using n1)
      have q1' : wo.cell? ⟨cb, 0, none⟩ = some (.slice (some ⟨ob, 0, none⟩) ps.length cap) := hgr.cell q1 (by simpa using n2)
      have hr : RcAt wo g (i * 11) r := fun j u hj => hgr.cell (he.own.cells (by rw [hv1]; rfl) _ _ (standCells_get hx j u hj)) (by simpa using n3)
      have hok := he.ok r (List.mem_of_getElem? hx)
      have HC := Lib.hid (set_calls (w := wo.drew) (b := ob) (o := 0) (t := 56) (cs := cs') (c := cap) (rb := g) (ro := i * 11) (r := r) (fold_length (e.tx.stand.take i) ps) hob' hp' hr hok.aft)
      have HF := Lib.hid (stand_fold ps e.tx.stand i hx)
      have HP := Lib.hid (PgsIn.setCs (r := r) hp')
      have b1 : (0 : Int) ≤ (i : Int) := by omega
      have b2 : (i : Int) < (e.tx.stand.length : Int) := by omega
      have b3 : decide ((i : Int) < (e.tx.stand.length : Int)) = true := decide_eq_true b2
      have hsmall : e.tx.stand.length ≤ 100000 := hlen
      clear hx hv3 hv2 hr hp' hob' hp
      go_wp2_with fail
      go_region_held3 (fun w' => w'.cell? ⟨e.blk, 3, none⟩ = some (.slice (some ⟨g, 0, none⟩) e.tx.stand.length cap1) ∧ w'.cell? ⟨cb, 0, none⟩ = some (.slice (some ⟨ob, 0, none⟩) ps.length cap)) (first | (go_keep; done) | skip)
        (first | (go_at_call 100; refine HC.out.mono ?_; rintro x w6 ⟨rfl, hb6, hg6⟩; have k1 := World.grownBy.cell hg6 (a := ⟨e.blk, 3, none⟩) c3' (by simpa using n1); have k2 := World.grownBy.cell hg6 (a := ⟨cb, 0, none⟩) q1' (by simpa using n2)))
      have hg7 : wo.grownBy w6 (some ob) := ⟨hg6.os, hg6.tape, hg6.output, hg6.size, hg6.block⟩
      simp only [Exit.inBlock, Exit.then]
      refine (by assumption : ∀ (a : Act) (w_1 : World), Code.wp _ _ _ _ _ → _) _ _ ?_
      go_wp2_with fail
      go_roundg (ko - 1)
      case measure => omega
      case rel => exact ⟨i + 1, _, by omega, by go_num, hb6, by rw [HF.out]; exact HP.out, grown_trans hgr hg7⟩
    · have hi : i = e.tx.stand.length := by omega
      subst hi
      rw [List.take_of_length_le (Nat.le_refl _)] at hp'
      go_wp2_with fail
      go_end0
      exact ⟨rfl, cs', hob', hp', hgr⟩
theorem after_none (v : Value) (w : World) : Calls Try.prog 101 #[v] w fun x w' => x = .returned (.tuple #[]) ∧ w' = w := by
  go_enter Try.func101, Try.ntmps101
  go_wp2
  go_end0
  exact ⟨rfl, rfl⟩
/-- The pages that commits make have turned, and nothing else. -/
theorem Jud.outTo {w w' : World} {B jb mb gb cb ob cap : Nat} {l : List (Int × JEnt)} {fv : Value} {s : JSt} {cs cs' : Array Value} {ps ps' : List Pg} (h : Jud w B jb mb gb l fv s)
    (hfv : fv = .func (.func 99) #[] #[.pointer (some ⟨cb, 0, none⟩)]) (hcB : B ≤ cb) (hoB : B ≤ ob) (hcb : w.heap[cb]? = some (.cells #[.slice (some ⟨ob, 0, none⟩) ps.length cap] 63 (0, 0)))
    (hob : w.heap[ob]? = some (.cells cs 56 (0, 0))) (hob' : w'.heap[ob]? = some (.cells cs' 56 (0, 0))) (hp : PgsIn cs' 0 ps') (hl : ps'.length = ps.length) (hg : w.grownBy w' (some ob)) :
    Jud w' B jb mb gb l fv { s with out := some ps' } ∧ Foot B w w' := by
  obtain ⟨c5, h1, _⟩ := h.blk.cs
  obtain ⟨es, c, hm⟩ := h.map.heap
  obtain ⟨es', c', hm'⟩ := h.beg.heap
  have hk : ∀ k, k < w.heap.size → k ≠ ob → w'.heap[k]? = w.heap[k]? := fun k h1 h2 => hg.block k h1 (by simpa using h2)
  refine ⟨⟨h.hB, h.hmb, h.hgb, h.hmg, h.blk.of_block (hk _ (lt_of_block h1) (type_ne hob h1 (by decide))), h.map.of_block (hk _ h.map.lt (map_ne hm hob).symm), h.beg.of_block (hk _ h.beg.lt (map_ne hm' hob).symm), h.ents.typed (typed_but hob (by decide) hk), h.opn, ?_⟩, ⟨hg.os, hg.tape, hg.output, hg.size, fun k h2 => ?_⟩, typed_but hob (by decide) hk⟩
  · exact ⟨cb, ob, cap, cs', hfv, hcB, hoB, by rw [hl]; exact (hk _ (lt_of_block hcb) (type_ne hob hcb (by decide))).trans hcb, hob', hp⟩
  · have := lt_of_block hob
    exact hk k (by omega) (by omega)
end Go.Proofs.Ytepkonhgkabkcaa
