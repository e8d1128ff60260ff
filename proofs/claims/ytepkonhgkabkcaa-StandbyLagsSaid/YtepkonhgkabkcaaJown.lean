/- Package judge: own: how it starts; what each kind of record comes to, plainly. No condition. -/
import Derived.Test.YtepkonhgkabkcaaJund
import Derived.Deep.DeepCutAuto
import Derived.Deep.CutBlock
import Derived.Deep.LoopGhost
import Derived.IntWalk
namespace Go.Proofs.Ytepkonhgkabkcaa
open Go.RowKit Go.Maps MapI
set_option linter.unusedVariables false
set_option linter.unusedSimpArgs false

theorem del_ins_self {α : Type} {k : Int} {v : α} : ∀ {l : List (Int × α)}, del k (ins (k, v) l) = del k l
  | [] => by simp [ins, del]
  | x :: r => by
    unfold ins
    split
    · simp [del]
    · have := @del_ins_self α k v r
      simp only [del, List.filter_cons] at this ⊢
      rw [this]
theorem put_put {α : Type} {k : Int} {u v : α} {l : List (Int × α)} : put k u (put k v l) = put k u l := by
  unfold put
  rw [del_ins_self, del_of_none get_del_same]
theorem del_put {α : Type} {k : Int} {v : α} {l : List (Int × α)} : del k (put k v l) = del k l := by
  unfold put
  rw [del_ins_self, del_of_none get_del_same]
/-- The transaction of a record, as it is found. -/
def openT (s : JSt) (a : Int) (r : Rc) : JTx := (get r.txn s.opn).getD ⟨r.txn, a, 0, []⟩
theorem zeroJ (w : World) : (zeroValue 111).run Try.prog w = .ok (.pointer none) w := by kernel_rfl
theorem uOpen : Try.prog.underlying 110 = some (.map 3 111) := Try.underlying110
theorem Jud.openT_eq {w : World} {B jb mb gb : Nat} {l : List (Int × JEnt)} {fv : Value} {s : JSt} (h : Jud w B jb mb gb l fv s) {a : Int} {r : Rc} {e : JEnt} (hg : get r.txn l = some e) : openT s a r = e.tx := by
  unfold openT; rw [← h.opn, get_mapv, hg]; rfl
theorem Jud.openT_new {w : World} {B jb mb gb : Nat} {l : List (Int × JEnt)} {fv : Value} {s : JSt} (h : Jud w B jb mb gb l fv s) {a : Int} {r : Rc} (hg : get r.txn l = none) : openT s a r = ⟨r.txn, a, 0, []⟩ := by
  unfold openT; rw [← h.opn, get_mapv, hg]; rfl
theorem openT_small {s : JSt} {a : Int} {r : Rc} {N : Nat} (h : ∀ p ∈ s.opn, p.2.stand.length ≤ N) : (openT s a r).stand.length ≤ N := by
  unfold openT
  cases hg : get r.txn s.opn with
  | none => exact Nat.zero_le _
  | some t => exact h _ (MapI.get_mem hg)
/-- What stands behind the first 'if'. -/
def Opened (w wx : World) (B jb mb gb : Nat) (fv : Value) (s : JSt) (a : Int) (r : Rc) (t : Value) : Prop :=
  ∃ l1 e1, t = encJ e1 ∧ e1.tx = openT s a r ∧ get r.txn l1 = some e1 ∧ Jud wx B jb mb gb l1 fv { s with opn := put r.txn (openT s a r) s.opn } ∧ Foot B w wx
theorem opened_new {w w3 : World} {B jb mb gb : Nat} {l : List (Int × JEnt)} {fv : Value} {s : JSt} {r : Rc} {a : Int} (h : Jud w B jb mb gb l fv s) (hB : B ≤ w.heap.size) (hg : get r.txn l = none)
    (hm3 : MapIs Try.prog 3 encJ w3 mb (put r.txn (⟨w.heap.size, .slice none 0 0, ⟨r.txn, a, 0, []⟩⟩ : JEnt) l)) (ht3 : (w.alloc (.cells #[.int .i64 r.txn, .int .i64 a, .int .i64 0, .slice none 0 0] tJx)).drew.drew.mapTurned w3 mb) :
    Opened w w3 B jb mb gb fv s a r (.pointer (some ⟨w.heap.size, 0, none⟩)) := by
  have hgr := ht3.grown
  have hml := h.map.lt
  have hk : ∀ k, k < w.heap.size → k ≠ mb → w3.heap[k]? = w.heap[k]? := fun k h1 h2 =>
    (hgr.block k (by show k < (w.alloc _).heap.size; simp; omega) (by simpa using h2)).trans (Below.heap_alloc w _ k h1)
  have hx : w3.heap[w.heap.size]? = some (.cells #[.int .i64 r.txn, .int .i64 a, .int .i64 0, .slice none 0 0] tJx (0, 0)) :=
    (hgr.block w.heap.size (by show w.heap.size < (w.alloc _).heap.size; simp) (by simp; omega)).trans (heap_alloc_new w _)
  have hT := h.openT_new (a := a) hg
  refine ⟨put r.txn ⟨w.heap.size, .slice none 0 0, ⟨r.txn, a, 0, []⟩⟩ l, ⟨w.heap.size, .slice none 0 0, ⟨r.txn, a, 0, []⟩⟩, rfl, hT.symm, get_put_same, ?_, ?_⟩
  · rw [hT]
    exact h.added hk (e := ⟨w.heap.size, .slice none 0 0, ⟨r.txn, a, 0, []⟩⟩) hg hB (Nat.le_refl _) rfl rfl hx hm3
  · obtain ⟨es, c, hmh⟩ := h.map.heap
    exact ⟨⟨hgr.os, hgr.tape, hgr.output, Nat.le_trans (by show w.heap.size ≤ (w.alloc _).heap.size; simp) hgr.size, fun k h1 => hk k (by omega) (by have := h.hmb; omega)⟩, typed_map hmh hk⟩
/-- The last record's place is stamped on a transaction. -/
theorem Jud.stamp {w : World} {B jb mb gb : Nat} {l : List (Int × JEnt)} {fv : Value} {s : JSt} {n a : Int} {e : JEnt} (h : Jud w B jb mb gb l fv s) (hn : get n l = some e) (N : Nat) :
    Jud ((w.drewN N).setCell ⟨e.blk, 2, none⟩ (.int .i64 a)) B jb mb gb (put n ⟨e.blk, e.sv, { e.tx with last := a }⟩ l) fv { s with opn := put n { e.tx with last := a } s.opn } ∧ Foot B w ((w.drewN N).setCell ⟨e.blk, 2, none⟩ (.int .i64 a)) := by
  have he := h.ents.ent _ (MapI.get_mem hn)
  dsimp only at he
  have hk : ∀ k, k ≠ e.blk → ((w.drewN N).setCell ⟨e.blk, 2, none⟩ (.int .i64 a)).heap[k]? = w.heap[k]? := fun k h1 => Below.heap_setCell (w.drewN N) _ _ _ h1
  refine ⟨?_, ?_⟩
  · refine h.turned (e' := ⟨e.blk, e.sv, { e.tx with last := a }⟩) hn rfl (fun k _ h2 _ => hk k h2) ⟨he.ge, ?_, ?_, he.ok⟩ (.inr (.inl rfl))
    · refine (setCell_block (w.drewN N) _ _ _ he.blk).trans ?_
      simp [jxCells]
    · refine he.own.of_block (fun k hk' => hk k fun e1 => ?_)
      exact he.ne he (by rw [← e1, hk'])
  · have h2 : Below B w (w.drewN N) := ⟨rfl, rfl, rfl, Nat.le_refl _, fun _ _ => rfl⟩
    exact foot_but (h2.setCell he.ge _) he.blk (by decide) (fun k _ h3 => hk k h3)
def ownJ (s : JSt) (a : Int) (r : Rc) : JSt × Bool :=
  if r.kind = 1 then ({ s with pages := setPg s.pages r, opn := put r.txn { openT s a r with last := a, stand := (openT s a r).stand ++ [r] } s.opn }, standsJ s.pages r && (r.prev == (openT s a r).last))
  else if r.kind = 2 then ({ s with pages := setPg s.pages r, opn := put r.txn { openT s a r with last := a, stand := (openT s a r).stand.dropLast } s.opn }, undoneOk (openT s a r) r && (r.prev == (openT s a r).last))
  else if r.kind = 4 then ({ s with opn := del r.txn s.opn }, (r.prev == (openT s a r).last) && (openT s a r).stand.isEmpty)
  else ({ s with opn := del r.txn s.opn, out := s.out.map fun ps => (openT s a r).stand.foldl setPg ps }, r.prev == (openT s a r).last)
def OwnPost (w : World) (B jb mb gb : Nat) (fv : Value) (x : JSt × Bool) (r : Ending) (w' : World) : Prop :=
  r = .returned (.bool x.2) ∧ ∃ l, Jud w' B jb mb gb l fv x.1 ∧ Foot B w w'
theorem len_empty (l : List Rc) : (((l.length : Int) == 0)) = l.isEmpty := by cases l <;> simp; omega
theorem own_close {w w' : World} {B jb mb gb : Nat} {l : List (Int × JEnt)} {fv : Value} {x : JSt × Bool} {s : JSt} {b : Bool} (hJ : Jud w' B jb mb gb l fv s) (hs : s = x.1) (hb : b = x.2) (h : Foot B w w') : OwnPost w B jb mb gb fv x (.returned (.bool b)) w' :=
  ⟨by rw [hb], l, by rw [← hs]; exact hJ, h⟩
/-- Behind set: the judge's pages have turned. -/
theorem Jud.set {w w' : World} {B jb mb gb : Nat} {l : List (Int × JEnt)} {fv : Value} {s : JSt} {r : Rc} {cs : Array Value} (h : Jud w B jb mb gb l fv s) (hjb : w.heap[jb]? = some (.cells cs tJ (0, 0))) (i0 : cs[0]? = some (.int .i64 s.last)) (i1 : cs[1]? = some (.map (some mb)))
    (ip : PgsIn cs 2 s.pages) (i18 : cs[18]? = some (.map (some gb))) (i19 : cs[19]? = some fv) (hb : w'.heap[jb]? = some (.cells (setCs cs 2 s.pages r) tJ (0, 0))) (hg : w.grownBy w' (some jb)) :
    Jud w' B jb mb gb l fv { s with pages := setPg s.pages r } ∧ Foot B w w' := by
  have hl := h.blk.len
  refine ⟨h.own (last := s.last) (ps := setPg s.pages r) (fun k hk hne => hg.block k hk (by simpa using hne)) ⟨⟨_, hb, ?_, ?_, ip.setCs, ?_, ?_⟩, by rw [setPg_length]; exact hl⟩, ⟨hg.os, hg.tape, hg.output, hg.size, fun k hk => ?_⟩, typed_but hjb (by decide) fun k hk hne => hg.block k hk (by simpa using hne)⟩
  · rw [setCs_far (by omega)]; exact i0
  · rw [setCs_far (by omega)]; exact i1
  · rw [setCs_far (by omega)]; exact i18
  · rw [setCs_far (by omega)]; exact i19
  · have h1 := h.hB
    have h2 := lt_of_block hjb
    exact hg.block k (by omega) (by simp; omega)
def zeroRc : Value := .agg #[.int .i64 0, .int .i64 0, .int .i64 0, .int .i64 0, .int .i64 0, .int .i64 0, .int .i64 0, .string ⟨#[]⟩, .string ⟨#[]⟩, .slice none 0 0, .slice none 0 0]
theorem infoRc : (Try.prog.info? tRc).map (fun i => (i.zero, i.size, i.bytes)) = some (some zeroRc, 11, 136) := by kernel_rfl
/-- A record is put onto a transaction's stand. -/
theorem Jud.pushed {w w4 : World} {B jb mb gb g cp : Nat} {l : List (Int × JEnt)} {fv : Value} {s : JSt} {n : Int} {e : JEnt} {r : Rc} {o : Obj} (h : Jud w B jb mb gb l fv s) (hB : B ≤ w.heap.size) (hn : get n l = some e) (hok : RcOk r)
    (hgr : (w.alloc o).drew.grownBy w4 e.sv.ownBlock) (hown : w4.ownsRow B tRc 11 (.slice (some ⟨g, 0, none⟩) (e.tx.stand.length + 1) cp) (e.tx.stand.length + 1) (standCells e.tx.stand ++ rcCells r)) (hat : e.sv.ownBlock = some g ∨ g = w.heap.size + 1) :
    Jud (w4.setCell ⟨e.blk, 3, none⟩ (.slice (some ⟨g, 0, none⟩) (e.tx.stand.length + 1) cp)) B jb mb gb (put n ⟨e.blk, .slice (some ⟨g, 0, none⟩) (e.tx.stand.length + 1) cp, { e.tx with stand := e.tx.stand ++ [r] }⟩ l) fv { s with opn := put n { e.tx with stand := e.tx.stand ++ [r] } s.opn } ∧
      Foot B w (w4.setCell ⟨e.blk, 3, none⟩ (.slice (some ⟨g, 0, none⟩) (e.tx.stand.length + 1) cp)) := by
  have he := h.ents.ent _ (MapI.get_mem hn)
  dsimp only at he
  have hlt := he.lt
  have hgb : g ≠ e.blk := by
    rcases hat with h1 | h1
    · intro h2; exact he.ne he (by rw [h1, h2])
    · omega
  have hblk : ∀ k, k < w.heap.size → some k ≠ e.sv.ownBlock → w4.heap[k]? = w.heap[k]? := fun k hk hne =>
    (hgr.block k (by show k < (w.alloc o).heap.size; simp; omega) hne).trans (Below.heap_alloc w o k hk)
  have hb1 : w4.heap[e.blk]? = some (.cells (jxCells e) tJx (0, 0)) := (hblk _ hlt (he.ne he)).trans he.blk
  have hsz : w.heap.size ≤ w4.heap.size := Nat.le_trans (by show w.heap.size ≤ (w.alloc o).heap.size; simp) hgr.size
  refine ⟨?_, ?_⟩
  · refine h.turned (e' := ⟨e.blk, .slice (some ⟨g, 0, none⟩) (e.tx.stand.length + 1) cp, { e.tx with stand := e.tx.stand ++ [r] }⟩) hn rfl (fun k hk h1 h2 => ?_) ⟨he.ge, ?_, ?_, ?_⟩ ?_
    · exact (Below.heap_setCell _ _ _ _ h1).trans (hblk k hk h2)
    · refine (setCell_block _ _ _ _ hb1).trans ?_
      simp [jxCells]
    · have e1 : (e.tx.stand ++ [r]).length = e.tx.stand.length + 1 := by simp
      have e2 : standCells (e.tx.stand ++ [r]) = standCells e.tx.stand ++ rcCells r := by simp [standCells]
      show Cut _ _ _ _ _ (e.tx.stand ++ [r]).length (standCells (e.tx.stand ++ [r]))
      rw [e1, e2]
      refine .inl (ownsRow_block hown fun k hk => ?_)
      have : g = k := by simpa [Value.ownBlock] using hk
      subst this
      exact Below.heap_setCell _ _ _ _ hgb
    · intro x hx
      rcases List.mem_append.1 hx with hx | hx
      · exact he.ok x hx
      · rw [List.mem_singleton.1 hx]; exact hok
    · rcases hat with h1 | h1
      · exact .inr (.inl h1.symm)
      · exact .inr (.inr ⟨g, rfl, by omega⟩)
  · have h1 : Below B w w4 := ⟨hgr.os, hgr.tape, hgr.output, hsz, fun k hk => hblk k (by omega) fun e1 => by have := (he.own.lt k e1.symm).1; omega⟩
    refine ⟨h1.setCell he.ge _, fun k cs t ht hkk => ?_⟩
    have n1 : k ≠ e.blk := type_ne he.blk hkk (by rw [ht]; decide)
    have n2 : some k ≠ e.sv.ownBlock := fun e1 => by
      obtain ⟨_, cur, h3, _⟩ := he.own.block e1.symm
      exact type_ne h3 hkk (by rw [ht]; decide) rfl
    exact (Below.heap_setCell _ _ _ _ n1).trans (hblk k (lt_of_block hkk) n2)
end Go.Proofs.Ytepkonhgkabkcaa
