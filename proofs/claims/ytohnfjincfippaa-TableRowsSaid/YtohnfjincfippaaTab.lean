/- What a table's memory reads as: its transactions by their numbers, each with its rows' places and its savepoints. Condition: none; definitions, and what keeps them. -/
import Derived.Test.YtohnfjincfippaaProg
import Derived.Test.YtohnfjincfippaaMapI
import Derived.Laws.OwnMore
namespace Go.Proofs.Ytohnfjincfippaa
open Go.RowKit Go.Maps MapI

/-! ### what a table does, plainly -/
structure Tx where
  txn : Int
  first : Int
  last : Int
  left : Int
  marks : List (Int × Int)
deriving DecidableEq
abbrev Txs := List (Int × Tx)
def beginE (n : Int) (m : Txs) : Int := if n < 1 ∨ n > 2147483647 then 1 else if (get n m).isSome then 9 else if 4 ≤ m.length then 5 else 0
def beginM (n : Int) (m : Txs) : Txs := if beginE n m = 0 then put n ⟨n, 0, 0, 0, []⟩ m else m
def logT (a : Int) (x : Tx) : Tx := { x with first := if x.first = 0 then a else x.first, last := a }
def logE (n a : Int) (m : Txs) : Int := match get n m with | none => 7 | some x => if a ≤ x.last then 1 else 0
def logM (n a : Int) (m : Txs) : Txs := if logE n a m = 0 then upd n (logT a) m else m
def endE (n : Int) (m : Txs) : Int := if (get n m).isSome then 0 else 7
def leftE (n d : Int) (m : Txs) : Int := match get n m with | none => 7 | some x => if d < -1048576 ∨ d > 1048576 ∨ x.left + d < 0 ∨ x.left + d > 1048576 then 1 else 0
def leftM (n d : Int) (m : Txs) : Txs := if leftE n d m = 0 then upd n (fun x => { x with left := x.left + d }) m else m

/-! ### memory -/
structure Ent where
  blk : Nat
  mv : Value
  tx : Tx
def encE (e : Ent) : Value := .pointer (some ⟨e.blk, 0, none⟩)
def markCells (l : List (Int × Int)) : List Value := l.flatMap fun p => [.int .i64 p.1, .int .i64 p.2]
def entCells (e : Ent) : Array Value := #[.int .i64 e.tx.txn, .int .i64 e.tx.first, .int .i64 e.tx.last, .int .i64 e.tx.left, e.mv]
abbrev tT : Nat := 46
abbrev tX : Nat := 52
abbrev tM : Nat := 59
structure EntIs (w : World) (B : Nat) (e : Ent) : Prop where
  ge : B ≤ e.blk
  blk : w.heap[e.blk]? = some (.cells (entCells e) tX (0, 0))
  own : w.ownsRow B tM 2 e.mv e.tx.marks.length (markCells e.tx.marks)
def Off (e f : Ent) : Prop := e.blk ≠ f.blk ∧ (e.mv.ownBlock = none ∨ e.mv.ownBlock ≠ f.mv.ownBlock)
structure Tab (w : World) (B tb mb : Nat) (l : List (Int × Ent)) : Prop where
  hB : B ≤ tb
  hMb : B ≤ mb
  tab : w.heap[tb]? = some (.cells #[.map (some mb)] tT (0, 0))
  map : MapIs Try.prog 3 encE w mb l
  ent : ∀ p ∈ l, EntIs w B p.2
  apart : l.Pairwise fun p q => Off p.2 q.2
  wf : ∀ p ∈ l, p.2.tx.txn = p.1 ∧ (Lit.int .i64 p.1).wf = true
/-- The table at block tb has the transactions m; all its blocks are from B on. -/
def TabAt (w : World) (B tb : Nat) (m : Txs) : Prop := ∃ mb l, Tab w B tb mb l ∧ mapv Ent.tx l = m

theorem cell_of_block {w : World} {b : Nat} {cs : Array Value} {t : Nat} (h : w.heap[b]? = some (.cells cs t (0, 0))) (i : Nat) : w.cell? ⟨b, i, none⟩ = cs[i]? := by
  simp [World.cell?, h]
theorem frozen_of_block {w : World} {b : Nat} {cs : Array Value} {t : Nat} (h : w.heap[b]? = some (.cells cs t (0, 0))) (i : Nat) : w.frozen? ⟨b, i, none⟩ = false := by
  simp [World.frozen?, h]
theorem lt_of_block {w : World} {b : Nat} {o : Obj} (h : w.heap[b]? = some o) : b < w.heap.size := (Array.getElem?_eq_some_iff.1 h).1

theorem ownsRow_block {w w' : World} {B : Nat} {e : TypeId} {s : Nat} {v : Value} {n : Nat} {xs : List Value} (h : w.ownsRow B e s v n xs) (hb : ∀ k, v.ownBlock = some k → w'.heap[k]? = w.heap[k]?) : w'.ownsRow B e s v n xs := by
  refine ⟨h.1, ?_⟩
  rcases h.2 with h2 | ⟨g, cap, cur, rfl, h2, h3, r⟩
  · exact .inl h2
  · exact .inr ⟨g, cap, cur, rfl, h2, (hb g rfl).trans h3, r⟩

theorem EntIs.of_block {w w' : World} {B : Nat} {e : Ent} (h : EntIs w B e) (h1 : w'.heap[e.blk]? = w.heap[e.blk]?) (h2 : ∀ k, e.mv.ownBlock = some k → w'.heap[k]? = w.heap[k]?) : EntIs w' B e :=
  ⟨h.ge, h1.trans h.blk, ownsRow_block h.own h2⟩
theorem EntIs.lt {w : World} {B : Nat} {e : Ent} (h : EntIs w B e) : e.blk < w.heap.size := lt_of_block h.blk

/-- What was there is as it was: so is the table. -/
theorem Tab.below {w w' : World} {B tb mb : Nat} {l : List (Int × Ent)} (h : Tab w B tb mb l) (hb : Below w.heap.size w w') : Tab w' B tb mb l := by
  refine ⟨h.hB, h.hMb, (hb.block _ (lt_of_block h.tab)).trans h.tab, h.map.of_block (hb.block _ h.map.lt), fun p hp => ?_, h.apart, h.wf⟩
  have he := h.ent p hp
  exact he.of_block (hb.block _ he.lt) (fun k hk => hb.block _ (he.own.lt k hk).2)
theorem TabAt.below {w w' : World} {B tb : Nat} {m : Txs} (h : TabAt w B tb m) (hb : Below w.heap.size w w') : TabAt w' B tb m := by
  obtain ⟨mb, l, h1, h2⟩ := h
  exact ⟨mb, l, h1.below hb, h2⟩
theorem TabAt.rises {w : World} {B tb : Nat} {m : Txs} (h : TabAt w B tb m) : Rises m := by
  obtain ⟨mb, l, h1, rfl⟩ := h
  exact h1.map.rises.mapv
theorem pairwise_mem {α : Type} {R : α → α → Prop} (hs : ∀ a b, R a b → R b a) : ∀ {l : List α}, l.Pairwise R → ∀ {a b : α}, a ∈ l → b ∈ l → a ≠ b → R a b
  | [], _, _, _, ha, _, _ => by simp at ha
  | x :: r, h, a, b, ha, hb, hne => by
    obtain ⟨h1, h2⟩ := List.pairwise_cons.1 h
    rcases List.mem_cons.1 ha with ea | ha2 <;> rcases List.mem_cons.1 hb with eb | hb2
    · exact absurd (ea.trans eb.symm) hne
    · rw [ea]; exact h1 _ hb2
    · rw [eb]; exact hs _ _ (h1 _ ha2)
    · exact pairwise_mem hs h2 ha2 hb2 hne
theorem Off.symm {e f : Ent} (h : Off e f) : Off f e := by
  refine ⟨h.1.symm, ?_⟩
  rcases h.2 with h2 | h2
  · cases hf : f.mv.ownBlock with
    | none => exact .inl rfl
    | some k => exact .inr (by rw [h2]; simp)
  · cases hf : f.mv.ownBlock with
    | none => exact .inl rfl
    | some k => exact .inr (by rw [← hf]; exact h2.symm)
theorem Tab.off {w : World} {B tb mb : Nat} {l : List (Int × Ent)} (h : Tab w B tb mb l) {p q : Int × Ent} (hp : p ∈ l) (hq : q ∈ l) (hne : p.1 ≠ q.1) : Off p.2 q.2 :=
  pairwise_mem (fun _ _ => Off.symm) h.apart hp hq (fun e => hne (by rw [e]))
theorem Tab.get_mem {w : World} {B tb mb : Nat} {l : List (Int × Ent)} (h : Tab w B tb mb l) {n : Int} {e : Ent} (hg : get n l = some e) : EntIs w B e := h.ent _ (MapI.get_mem hg)
theorem Tab.block_ne {w : World} {B tb mb : Nat} {l : List (Int × Ent)} (ht : Tab w B tb mb l) {k : Nat} {cs : Array Value} {t : Nat} (h : w.heap[k]? = some (.cells cs t (0, 0))) : k ≠ mb := by
  rintro rfl
  obtain ⟨es, c, h2⟩ := ht.map.heap
  rw [h2] at h; cases h
theorem own_type {w : World} {B : Nat} {t s n : Nat} {v : Value} {xs : List Value} (h : w.ownsRow B t s v n xs) {k : Nat} (hk : v.ownBlock = some k) : ∃ cur, w.heap[k]? = some (.cells cur t (0, 0)) := by
  rcases h.2 with ⟨rfl, _⟩ | ⟨g, cap, cur, rfl, _, hh, _⟩
  · simp [Value.ownBlock] at hk
  · have : g = k := by simpa [Value.ownBlock] using hk
    subst this; exact ⟨cur, hh⟩
theorem blk_ne_own {w : World} {B b : Nat} {cs : Array Value} {t s n : Nat} {v : Value} {xs : List Value} {t' : Nat} (hb : w.heap[b]? = some (.cells cs t' (0, 0))) (h : w.ownsRow B t s v n xs) (hne : t ≠ t') : some b ≠ v.ownBlock := by
  intro e
  obtain ⟨cur, hh⟩ := own_type h e.symm
  rw [hb] at hh
  injection hh with hh
  injection hh with _ hh
  exact hne hh.symm
/-- One transaction's own memory has turned, and no other's. -/
theorem Tab.turned {w w' : World} {B tb mb : Nat} {l : List (Int × Ent)} {n : Int} {e e' : Ent} (ht : Tab w B tb mb l) (hg : get n l = some e) (hblk : e'.blk = e.blk) (htx : e'.tx.txn = e.tx.txn)
    (hb : ∀ k, k < w.heap.size → k ≠ e.blk → some k ≠ e.mv.ownBlock → w'.heap[k]? = w.heap[k]?) (he : EntIs w' B e') (hown : e'.mv.ownBlock = none ∨ e'.mv.ownBlock = e.mv.ownBlock ∨ ∃ k, e'.mv.ownBlock = some k ∧ w.heap.size ≤ k) :
    Tab w' B tb mb (upd n (fun _ => e') l) := by
  have he0 := ht.get_mem hg
  have hmem := MapI.get_mem hg
  have uniq : ∀ a, (n, a) ∈ l → a = e := fun a ha => by have := get_of_mem ht.map.rises ha; rw [hg] at this; injection this with this; exact this.symm
  have hmb : mb ≠ e.blk := fun h => ht.block_ne he0.blk h.symm
  have hmo : some mb ≠ e.mv.ownBlock := fun h => by obtain ⟨cur, hh⟩ := own_type he0.own h.symm; exact ht.block_ne hh rfl
  have hoff : ∀ p ∈ l, p.1 ≠ n → Off p.2 e := fun p hp hne => ht.off hp hmem hne
  have hoff' : ∀ p ∈ l, p.1 ≠ n → Off p.2 e' := fun p hp hne => by
    have h1 := hoff p hp hne
    refine ⟨by rw [hblk]; exact h1.1, ?_⟩
    rcases h1.2 with h2 | h2
    · exact .inl h2
    · rcases hown with h3 | h3 | ⟨k, h3, h4⟩
      · rw [h3]
        cases hp2 : p.2.mv.ownBlock with
        | none => exact .inl rfl
        | some j => exact .inr (by simp)
      · rw [h3]; exact .inr h2
      · refine .inr fun h5 => ?_
        have := ((ht.ent p hp).own.lt k (h5.trans h3)).2
        omega
  have htb : tb ≠ e.blk := fun h => by
    have h1 := ht.tab; rw [h, he0.blk] at h1; injection h1 with h1; injection h1 with _ h1; cases h1
  refine ⟨ht.hB, ht.hMb, (hb tb (lt_of_block ht.tab) htb (blk_ne_own ht.tab he0.own (by decide))).trans ht.tab, ?_, fun p hp => ?_, ?_, fun p hp => ?_⟩
  · refine (ht.map.of_block (hb mb ht.map.lt hmb hmo)).congr ?_
    have h1 : mapv encE (upd n (fun _ => e') l) = upd n (fun v => v) (mapv encE l) := mapv_upd encE n (fun a ha => by rw [uniq a ha]; simp [encE, hblk])
    rw [h1]
    conv => rhs; rw [← List.map_id (mapv encE l)]
    exact List.map_congr_left fun p _ => by split <;> rfl
  · rcases mem_upd hp with ⟨hp, hne⟩ | ⟨a, ha, rfl⟩
    · have h1 := ht.ent p hp
      have h2 := hoff p hp hne
      refine h1.of_block (hb _ h1.lt h2.1 (blk_ne_own h1.blk he0.own (by decide))) (fun k hk => ?_)
      refine hb k (h1.own.lt k hk).2 (fun e1 => ?_) (fun e1 => ?_)
      · exact blk_ne_own he0.blk h1.own (by decide) (by rw [← e1]; exact hk.symm)
      · rcases h2.2 with h3 | h3
        · rw [h3] at hk; cases hk
        · exact h3 (hk.trans e1)
    · exact he
  · refine List.pairwise_map.2 (ht.apart.imp_of_mem fun {a b} ha hb2 hab => ?_)
    by_cases h1 : a.1 = n <;> by_cases h2 : b.1 = n
    · exfalso
      have e1 := uniq a.2 (by rw [← h1]; exact ha)
      have e2 := uniq b.2 (by rw [← h2]; exact hb2)
      rw [e1, e2] at hab
      exact hab.1 rfl
    · rw [if_pos h1, if_neg h2]; exact (hoff' b hb2 h2).symm
    · rw [if_neg h1, if_pos h2]; exact hoff' a ha h1
    · rw [if_neg h1, if_neg h2]; exact hab
  · rcases mem_upd hp with ⟨hp, _⟩ | ⟨a, ha, rfl⟩
    · exact ht.wf p hp
    · have := ht.wf _ hmem
      exact ⟨htx.trans this.1, this.2⟩
theorem Tab.turnedAt {w w' : World} {B tb mb : Nat} {l : List (Int × Ent)} {n : Int} {e e' : Ent} {g : Tx → Tx} (ht : Tab w B tb mb l) (hg : get n l = some e) (hblk : e'.blk = e.blk) (hgt : e'.tx = g e.tx) (htx : e'.tx.txn = e.tx.txn)
    (hb : ∀ k, k < w.heap.size → k ≠ e.blk → some k ≠ e.mv.ownBlock → w'.heap[k]? = w.heap[k]?) (he : EntIs w' B e') (hown : e'.mv.ownBlock = none ∨ e'.mv.ownBlock = e.mv.ownBlock ∨ ∃ k, e'.mv.ownBlock = some k ∧ w.heap.size ≤ k) :
    TabAt w' B tb (upd n g (mapv Ent.tx l)) :=
  ⟨mb, _, ht.turned hg hblk htx hb he hown, mapv_upd Ent.tx n fun a ha => by
    have := get_of_mem ht.map.rises ha; rw [hg] at this; injection this with this; subst this; exact hgt⟩
end Go.Proofs.Ytohnfjincfippaa
