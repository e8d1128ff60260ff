/- Package judge: a judge's memory. No condition: definitions, and what keeps them. -/
import Derived.Test.YtepkonhgkabkcaaJmem
import Derived.Test.YtepkonhgkabkcaaMapR
namespace Go.Proofs.Ytepkonhgkabkcaa
open Go.RowKit Go.Maps MapI
set_option linter.unusedVariables false
set_option linter.unusedSimpArgs false
structure JEnt where
  blk : Nat
  sv : Value
  tx : JTx
def encJ (e : JEnt) : Value := .pointer (some ⟨e.blk, 0, none⟩)
def encN (n : Int) : Value := .int .i64 n
def jxCells (e : JEnt) : Array Value := #[.int .i64 e.tx.num, .int .i64 e.tx.first, .int .i64 e.tx.last, e.sv]
def standCells (l : List Rc) : List Value := l.flatMap rcCells
theorem standCells_length (l : List Rc) : (standCells l).length = l.length * 11 := by
  unfold standCells
  induction l with
  | nil => rfl
  | cons p r ih => simp only [List.flatMap_cons, List.length_append, ih, List.length_cons, rcCells, List.length_nil]; omega
theorem standCells_get {l : List Rc} : ∀ {i : Nat} {r : Rc}, l[i]? = some r → ∀ j u, (rcCells r)[j]? = some u → (standCells l)[i * 11 + j]? = some u := by
  induction l with
  | nil => intro i r h; simp at h
  | cons q t ih =>
    intro i r h j u hu
    have hj : j < 11 := by have := (List.getElem?_eq_some_iff.1 hu).1; simpa [rcCells] using this
    have hq : (rcCells q).length = 11 := by simp [rcCells]
    unfold standCells
    rw [List.flatMap_cons]
    cases i with
    | zero =>
      simp at h; subst h
      rw [List.getElem?_append_left (by omega)]
      simpa using hu
    | succ i =>
      simp at h
      rw [List.getElem?_append_right (by omega), hq, show (i + 1) * 11 + j - 11 = i * 11 + j from by omega]
      exact ih h j u hu
/-- A record that a log may hold. -/
structure RcOk (r : Rc) : Prop where
  wf : (Lit.int .i64 r.txn).wf = true
  wfb : (Lit.int .i64 r.begin_).wf = true
  bef : r.before.size ≤ 300
  aft : r.after.size ≤ 300
  tx1 : ∃ A n c, r.txns = .slice A n c
  pg1 : ∃ A n c, r.pages = .slice A n c
structure JEntIs (w : World) (B : Nat) (e : JEnt) : Prop where
  ge : B ≤ e.blk
  blk : w.heap[e.blk]? = some (.cells (jxCells e) tJx (0, 0))
  own : Cut w B tRc 11 e.sv e.tx.stand.length (standCells e.tx.stand)
  ok : ∀ r ∈ e.tx.stand, RcOk r
def JOff (e f : JEnt) : Prop := e.blk ≠ f.blk ∧ (e.sv.ownBlock = none ∨ e.sv.ownBlock ≠ f.sv.ownBlock)
structure Ents (w : World) (B : Nat) (l : List (Int × JEnt)) : Prop where
  ent : ∀ p ∈ l, JEntIs w B p.2
  apart : l.Pairwise fun p q => JOff p.2 q.2
structure JBlk (w : World) (jb mb gb : Nat) (last : Int) (ps : List Pg) (fv : Value) : Prop where
  cs : ∃ cs, w.heap[jb]? = some (.cells cs tJ (0, 0)) ∧ cs[0]? = some (.int .i64 last) ∧ cs[1]? = some (.map (some mb)) ∧ PgsIn cs 2 ps ∧ cs[18]? = some (.map (some gb)) ∧ cs[19]? = some fv
  len : ps.length = 8
def OutIs (w : World) (B : Nat) (fv : Value) : Option (List Pg) → Prop
  | none => fv = .func (.func 101) #[] #[]
  | some ps => ∃ cb ob cap cs, fv = .func (.func 99) #[] #[.pointer (some ⟨cb, 0, none⟩)] ∧ B ≤ cb ∧ B ≤ ob ∧ w.heap[cb]? = some (.cells #[.slice (some ⟨ob, 0, none⟩) ps.length cap] 63 (0, 0)) ∧
      w.heap[ob]? = some (.cells cs 56 (0, 0)) ∧ PgsIn cs 0 ps
structure Jud (w : World) (B jb mb gb : Nat) (l : List (Int × JEnt)) (fv : Value) (s : JSt) : Prop where
  hB : B ≤ jb
  hmb : B ≤ mb
  hgb : B ≤ gb
  hmg : mb ≠ gb
  blk : JBlk w jb mb gb s.last s.pages fv
  map : MapIs Try.prog 3 encJ w mb l
  beg : MapIs Try.prog 3 encN w gb s.begun
  ents : Ents w B l
  opn : mapv JEnt.tx l = s.opn
  out : OutIs w B fv s.out
/-- The judge at block jb is in state s; all its blocks are from B on. -/
def JudAt (w : World) (B jb : Nat) (s : JSt) : Prop := ∃ mb gb l fv, Jud w B jb mb gb l fv s

/-- All blocks of the types T that were there are as they were. -/
def Typed (T : Nat → Prop) (w w' : World) : Prop := ∀ (k : Nat) (cs : Array Value) (t : Nat), T t → w.heap[k]? = some (Obj.cells cs t (0, 0)) → w'.heap[k]? = w.heap[k]?
/-- What a judge's function does to memory: blocks from B on alone may turn, and no row of entries does. -/
structure Foot (B : Nat) (w w' : World) : Prop extends Below B w w' where
  kept : Typed (fun t => t = 32) w w'
theorem Foot.trans {B : Nat} {w w1 w2 : World} (h : Foot B w w1) (k : Foot B w1 w2) : Foot B w w2 :=
  ⟨h.toBelow.trans k.toBelow, fun b cs t ht hb => (k.kept b cs t ht ((h.kept b cs t ht hb).trans hb)).trans (h.kept b cs t ht hb)⟩
theorem Foot.of {B : Nat} {w w' : World} (h : Below w.heap.size w w') (hB : B ≤ w.heap.size) : Foot B w w' := ⟨h.mono hB, fun k cs t _ hk => h.block k (Array.getElem?_eq_some_iff.1 hk).1⟩
theorem Foot.same {B : Nat} {w w' : World} (h1 : w'.os = w.os) (h2 : w'.tape = w.tape) (h3 : w'.output = w.output) (h4 : w'.heap = w.heap) : Foot B w w' :=
  ⟨⟨h1, h2, h3, Nat.le_of_eq (by rw [h4]), fun k _ => by rw [h4]⟩, fun k _ _ _ _ => by rw [h4]⟩
theorem Foot.refl (B : Nat) (w : World) : Foot B w w := .same rfl rfl rfl rfl
theorem Foot.undrew {B : Nat} {w w' : World} (h : Foot B w.drew w') : Foot B w w' := ⟨⟨h.os, h.tape, h.output, h.size, h.block⟩, h.kept⟩
theorem JOff.symm {e f : JEnt} (h : JOff e f) : JOff f e := by
  refine ⟨h.1.symm, ?_⟩
  rcases h.2 with h2 | h2
  · cases hf : f.sv.ownBlock with
    | none => exact .inl rfl
    | some k => exact .inr (by rw [h2]; simp)
  · cases hf : f.sv.ownBlock with
    | none => exact .inl rfl
    | some k => exact .inr (by rw [← hf]; exact h2.symm)
theorem JEntIs.of_block {w w' : World} {B : Nat} {e : JEnt} (h : JEntIs w B e) (h1 : w'.heap[e.blk]? = w.heap[e.blk]?) (h2 : ∀ k, e.sv.ownBlock = some k → w'.heap[k]? = w.heap[k]?) : JEntIs w' B e :=
  ⟨h.ge, h1.trans h.blk, h.own.of_block h2, h.ok⟩
theorem JEntIs.lt {w : World} {B : Nat} {e : JEnt} (h : JEntIs w B e) : e.blk < w.heap.size := lt_of_block h.blk
theorem JEntIs.ne {w : World} {B : Nat} {e f : JEnt} (h : JEntIs w B e) (k : JEntIs w B f) : some e.blk ≠ f.sv.ownBlock := by
  intro e1
  obtain ⟨_, cur, h2, _⟩ := k.own.block e1.symm
  rw [h.blk] at h2
  injection h2 with h2; injection h2 with _ h2; exact absurd h2 (by decide)
theorem Ents.typed {w w' : World} {B : Nat} {l : List (Int × JEnt)} (h : Ents w B l) (hT : Typed (fun t => t = tJx ∨ t = tRc) w w') : Ents w' B l :=
  ⟨fun p hp => (h.ent p hp).of_block (hT _ _ _ (.inl rfl) (h.ent p hp).blk) (fun k hk => by obtain ⟨_, cur, h2, _⟩ := (h.ent p hp).own.block hk; exact hT _ _ _ (.inr rfl) h2), h.apart⟩
theorem JBlk.of_block {w w' : World} {jb mb gb : Nat} {last : Int} {ps : List Pg} {fv : Value} (h : JBlk w jb mb gb last ps fv) (hb : w'.heap[jb]? = w.heap[jb]?) : JBlk w' jb mb gb last ps fv := by
  obtain ⟨⟨cs, h1, h2⟩, h3⟩ := h
  exact ⟨⟨cs, hb.trans h1, h2⟩, h3⟩
theorem OutIs.typed {w w' : World} {B : Nat} {fv : Value} {o : Option (List Pg)} (h : OutIs w B fv o) (hT : Typed (fun t => t = 63 ∨ t = 56) w w') : OutIs w' B fv o := by
  cases o with
  | none => exact h
  | some ps =>
    obtain ⟨cb, ob, cap, cs, h1, h2, h3, h4, h5, h6⟩ := h
    exact ⟨cb, ob, cap, cs, h1, h2, h3, (hT _ _ _ (.inl rfl) h4).trans h4, (hT _ _ _ (.inr rfl) h5).trans h5, h6⟩
theorem typed_below {T : Nat → Prop} {w w' : World} (h : Below w.heap.size w w') : Typed T w w' := fun k cs t _ hk => h.block k (lt_of_block hk)
theorem Jud.below {w w' : World} {B jb mb gb : Nat} {l : List (Int × JEnt)} {fv : Value} {s : JSt} (h : Jud w B jb mb gb l fv s) (hb : Below w.heap.size w w') : Jud w' B jb mb gb l fv s := by
  obtain ⟨cs, h1, _⟩ := h.blk.cs
  exact ⟨h.hB, h.hmb, h.hgb, h.hmg, h.blk.of_block (hb.block _ (lt_of_block h1)), h.map.of_block (hb.block _ h.map.lt), h.beg.of_block (hb.block _ h.beg.lt), h.ents.typed (typed_below hb), h.opn, h.out.typed (typed_below hb)⟩
theorem JudAt.below {w w' : World} {B jb : Nat} {s : JSt} (h : JudAt w B jb s) (hb : Below w.heap.size w w') : JudAt w' B jb s := by
  obtain ⟨mb, gb, l, fv, h⟩ := h
  exact ⟨mb, gb, l, fv, h.below hb⟩
theorem typed_but {T : Nat → Prop} {w w' : World} {b : Nat} {cs : Array Value} {t : Nat} (hb : w.heap[b]? = some (.cells cs t (0, 0))) (ht : ¬ T t) (hg : ∀ k, k < w.heap.size → k ≠ b → w'.heap[k]? = w.heap[k]?) : Typed T w w' := fun k cs' t' hT hk => by
  refine hg k (lt_of_block hk) fun e => ?_
  subst e
  rw [hb] at hk
  injection hk with hk; injection hk with _ hk
  subst hk; exact ht hT
theorem typed_map {T : Nat → Prop} {w w' : World} {b : Nat} {es : Array MapEntry} {c : Nat} (hb : w.heap[b]? = some (.map es c)) (hg : ∀ k, k < w.heap.size → k ≠ b → w'.heap[k]? = w.heap[k]?) : Typed T w w' := fun k cs' t' hT hk => by
  refine hg k (lt_of_block hk) fun e => ?_
  subst e
  rw [hb] at hk
  cases hk
theorem map_ne {w : World} {b k : Nat} {es : Array MapEntry} {c : Nat} {cs : Array Value} {t : Nat} (hb : w.heap[b]? = some (.map es c)) (hk : w.heap[k]? = some (.cells cs t (0, 0))) : k ≠ b := by
  rintro rfl
  rw [hb] at hk; cases hk
theorem type_ne {w : World} {b k : Nat} {cs cs' : Array Value} {t t' : Nat} (hb : w.heap[b]? = some (.cells cs t (0, 0))) (hk : w.heap[k]? = some (.cells cs' t' (0, 0))) (hne : t ≠ t') : k ≠ b := by
  rintro rfl
  rw [hb] at hk
  injection hk with hk; injection hk with _ hk; exact hne hk
theorem foot_but {B : Nat} {w w' : World} {b : Nat} {cs : Array Value} {t : Nat} (h : Below B w w') (hb : w.heap[b]? = some (.cells cs t (0, 0))) (ht : t ≠ 32) (hg : ∀ k, k < w.heap.size → k ≠ b → w'.heap[k]? = w.heap[k]?) : Foot B w w' := ⟨h, typed_but hb ht hg⟩
theorem foot_turned {B : Nat} {w w' : World} {mb : Nat} {α : Type} {kt : Nat} {enc : α → Value} {l : List (Int × α)} (h : MapIs Try.prog kt enc w mb l) (hB : B ≤ mb) (ht : w.drew.mapTurned w' mb) : Foot B w w' := by
  obtain ⟨es, c, hm⟩ := h.heap
  have hg := ht.grown
  have hk : ∀ k, k < w.heap.size → k ≠ mb → w'.heap[k]? = w.heap[k]? := fun k h1 h2 => hg.block k h1 (by simpa using h2)
  exact ⟨⟨hg.os, hg.tape, hg.output, hg.size, fun k h1 => hk k (by have := h.lt; omega) (by omega)⟩, typed_map hm hk⟩
section turn
variable {w w' : World} {B jb mb gb : Nat} {l : List (Int × JEnt)} {fv : Value} {s : JSt}
/-- The judge's own block has turned, and no other. -/
theorem Jud.own (h : Jud w B jb mb gb l fv s) (hg : ∀ k, k < w.heap.size → k ≠ jb → w'.heap[k]? = w.heap[k]?) {last : Int} {ps : List Pg} (hb : JBlk w' jb mb gb last ps fv) : Jud w' B jb mb gb l fv { s with last := last, pages := ps } := by
  obtain ⟨cs, h1, _⟩ := h.blk.cs
  obtain ⟨es, c, hm⟩ := h.map.heap
  obtain ⟨es', c', hm'⟩ := h.beg.heap
  exact ⟨h.hB, h.hmb, h.hgb, h.hmg, hb, h.map.of_block (hg _ h.map.lt (map_ne hm h1).symm), h.beg.of_block (hg _ h.beg.lt (map_ne hm' h1).symm), h.ents.typed (typed_but h1 (by decide) hg), h.opn, h.out.typed (typed_but h1 (by decide) hg)⟩
/-- The map of begun checkpoints has turned, and nothing else. -/
theorem Jud.begunTo (h : Jud w B jb mb gb l fv s) (hg : ∀ k, k < w.heap.size → k ≠ gb → w'.heap[k]? = w.heap[k]?) {g : List (Int × Int)} (hm : MapIs Try.prog 3 encN w' gb g) : Jud w' B jb mb gb l fv { s with begun := g } := by
  obtain ⟨cs, h1, _⟩ := h.blk.cs
  obtain ⟨es', c', hm'⟩ := h.beg.heap
  exact ⟨h.hB, h.hmb, h.hgb, h.hmg, h.blk.of_block (hg _ (lt_of_block h1) (map_ne hm' h1)), h.map.of_block (hg _ h.map.lt h.hmg), hm, h.ents.typed (typed_map hm' hg), h.opn, h.out.typed (typed_map hm' hg)⟩
/-- The map of transactions has lost one. -/
theorem Jud.dropped (h : Jud w B jb mb gb l fv s) (hg : ∀ k, k < w.heap.size → k ≠ mb → w'.heap[k]? = w.heap[k]?) {n : Int} (hm : MapIs Try.prog 3 encJ w' mb (del n l)) : Jud w' B jb mb gb (del n l) fv { s with opn := del n s.opn } := by
  obtain ⟨cs, h1, _⟩ := h.blk.cs
  obtain ⟨es', c', hm'⟩ := h.map.heap
  have he := h.ents.typed (typed_map (T := fun t => t = tJx ∨ t = tRc) hm' hg)
  exact ⟨h.hB, h.hmb, h.hgb, h.hmg, h.blk.of_block (hg _ (lt_of_block h1) (map_ne hm' h1)), hm, h.beg.of_block (hg _ h.beg.lt (Ne.symm h.hmg)),
    ⟨fun p hp => he.ent p (mem_del.1 hp).1, he.apart.sublist (List.filter_sublist ..)⟩, by show _ = del n s.opn; rw [← h.opn, mapv_del], h.out.typed (typed_map hm' hg)⟩
/-- The map of transactions has a new one, in a new block. -/
theorem Jud.added (h : Jud w B jb mb gb l fv s) (hg : ∀ k, k < w.heap.size → k ≠ mb → w'.heap[k]? = w.heap[k]?) {n : Int} {e : JEnt} (hn : get n l = none) (hx : B ≤ e.blk) (hx1 : w.heap.size ≤ e.blk) (hsv : e.sv = .slice none 0 0) (hst : e.tx.stand = [])
    (hb : w'.heap[e.blk]? = some (.cells (jxCells e) tJx (0, 0))) (hm : MapIs Try.prog 3 encJ w' mb (put n e l)) : Jud w' B jb mb gb (put n e l) fv { s with opn := put n e.tx s.opn } := by
  obtain ⟨cs, h1, _⟩ := h.blk.cs
  obtain ⟨es', c', hm'⟩ := h.map.heap
  have he := h.ents.typed (typed_map (T := fun t => t = tJx ∨ t = tRc) hm' hg)
  refine ⟨h.hB, h.hmb, h.hgb, h.hmg, h.blk.of_block (hg _ (lt_of_block h1) (map_ne hm' h1)), hm, h.beg.of_block (hg _ h.beg.lt (Ne.symm h.hmg)), ⟨fun p hp => ?_, ?_⟩, by show _ = put n e.tx s.opn; rw [← h.opn, mapv_put], h.out.typed (typed_map hm' hg)⟩
  · rcases mem_put.1 hp with rfl | ⟨hp, _⟩
    · exact ⟨hx, hb, by show Cut _ _ _ _ e.sv _ _; rw [hsv, hst]; exact .nil, by show ∀ r ∈ e.tx.stand, _; rw [hst]; simp⟩
    · exact he.ent p hp
  · have hlt : ∀ p ∈ l, p.2.blk < e.blk := fun p hp => Nat.lt_of_lt_of_le (h.ents.ent p hp).lt hx1
    have ha := h.ents.apart
    unfold put
    rw [del_of_none hn]
    clear hm hg hb he h hm' h1 hn
    have hsn : e.sv.ownBlock = none := by rw [hsv]; rfl
    induction l with
    | nil => simp [ins]
    | cons y r ih =>
      obtain ⟨h1, h2⟩ := List.pairwise_cons.1 ha
      unfold ins
      split
      · refine List.pairwise_cons.2 ⟨fun q hq => ⟨fun e1 => ?_, .inl hsn⟩, ha⟩
        have := hlt q hq; dsimp only at e1; omega
      · refine List.pairwise_cons.2 ⟨fun q hq => ?_, ih (fun p hp => hlt p (by simp [hp])) h2⟩
        rcases mem_ins.1 hq with rfl | hq
        · have := hlt y (by simp)
          exact JOff.symm ⟨fun e1 => by dsimp only at e1; omega, .inl hsn⟩
        · exact h1 q hq
/-- One transaction's memory has turned, and nothing else. -/
theorem Jud.turned (h : Jud w B jb mb gb l fv s) {n : Int} {e e' : JEnt} (hn : get n l = some e) (hblk : e'.blk = e.blk)
    (hb : ∀ k, k < w.heap.size → k ≠ e.blk → some k ≠ e.sv.ownBlock → w'.heap[k]? = w.heap[k]?) (he : JEntIs w' B e') (hown : e'.sv.ownBlock = none ∨ e'.sv.ownBlock = e.sv.ownBlock ∨ ∃ k, e'.sv.ownBlock = some k ∧ w.heap.size ≤ k) :
    Jud w' B jb mb gb (put n e' l) fv { s with opn := put n e'.tx s.opn } := by
  have hmem := MapI.get_mem hn
  have he0 : JEntIs w B e := h.ents.ent _ hmem
  have hr := h.map.rises
  have uniq : ∀ a, (n, a) ∈ l → a = e := fun a ha => by have := get_of_mem hr ha; rw [hn] at this; injection this with this; exact this.symm
  obtain ⟨es, c, hmm⟩ := h.map.heap
  obtain ⟨es', c', hgm⟩ := h.beg.heap
  have hfar : ∀ (k : Nat) (cs : Array Value) (t : Nat), t ≠ tJx → t ≠ tRc → w.heap[k]? = some (Obj.cells cs t (0, 0)) → w'.heap[k]? = w.heap[k]? := fun k cs t h1 h2 hk => by
    refine hb k (lt_of_block hk) (type_ne he0.blk hk (Ne.symm h1)) fun e1 => ?_
    obtain ⟨_, cur, h3, _⟩ := he0.own.block e1.symm
    exact type_ne h3 hk (Ne.symm h2) rfl
  have hmap : ∀ (k : Nat) (es : Array MapEntry) (c : Nat), w.heap[k]? = some (Obj.map es c) → k < w.heap.size → w'.heap[k]? = w.heap[k]? := fun k es c hk hlt => by
    refine hb k hlt (map_ne hk he0.blk).symm fun e1 => ?_
    obtain ⟨_, cur, h3, _⟩ := he0.own.block e1.symm
    exact (map_ne hk h3).symm rfl
  have hoff : ∀ p ∈ l, p.1 ≠ n → JOff p.2 e := fun p hp hne => by
    rcases Classical.em (p = (n, e)) with rfl | hpe
    · exact absurd rfl hne
    · have hpw := h.ents.apart
      have key : ∀ {l : List (Int × JEnt)}, l.Pairwise (fun p q => JOff p.2 q.2) → p ∈ l → (n, e) ∈ l → p ≠ (n, e) → JOff p.2 e := by
        intro l
        induction l with
        | nil => intro _ h1; simp at h1
        | cons x r ih =>
          intro hpw h1 h2 h3
          obtain ⟨q1, q2⟩ := List.pairwise_cons.1 hpw
          rcases List.mem_cons.1 h1 with ea | ha2 <;> rcases List.mem_cons.1 h2 with eb | hb2
          · exact absurd (ea.trans eb.symm) h3
          · rw [ea]; exact q1 _ hb2
          · have := q1 _ ha2; rw [← eb] at this; exact this.symm
          · exact ih q2 ha2 hb2 h3
      exact key hpw hp hmem hpe
  have hoff' : ∀ p ∈ l, p.1 ≠ n → JOff p.2 e' := fun p hp hne => by
    have h1 := hoff p hp hne
    refine ⟨by rw [hblk]; exact h1.1, ?_⟩
    rcases h1.2 with h2 | h2
    · exact .inl h2
    · rcases hown with h3 | h3 | ⟨k, h3, h4⟩
      · rw [h3]
        cases hp2 : p.2.sv.ownBlock with
        | none => exact .inl rfl
        | some j => exact .inr (by simp)
      · rw [h3]; exact .inr h2
      · refine .inr fun h5 => ?_
        have := ((h.ents.ent p hp).own.lt k (h5.trans h3)).2
        omega
  obtain ⟨cs, h1, _⟩ := h.blk.cs
  refine ⟨h.hB, h.hmb, h.hgb, h.hmg, h.blk.of_block (hfar _ _ _ (by decide) (by decide) h1), ?_, h.beg.of_block (hmap _ _ _ hgm h.beg.lt), ⟨fun p hp => ?_, ?_⟩, by show _ = put n e'.tx s.opn; rw [← h.opn, mapv_put], h.out.typed fun k cs t hT hk => hfar k cs t (by rcases hT with rfl | rfl <;> decide) (by rcases hT with rfl | rfl <;> decide) hk⟩
  · refine (h.map.of_block (hmap _ _ _ hmm h.map.lt)).congr ?_
    rw [← upd_const hr hn]
    have h1 : mapv encJ (upd n (fun _ => e') l) = upd n (fun v => v) (mapv encJ l) := mapv_upd encJ n (fun a ha => by rw [uniq a ha]; simp [encJ, hblk])
    rw [h1]
    conv => rhs; rw [← List.map_id (mapv encJ l)]
    exact List.map_congr_left fun p _ => by split <;> rfl
  · rcases mem_put.1 hp with rfl | ⟨hp, hne⟩
    · exact he
    · have h1 := h.ents.ent p hp
      have h2 := hoff p hp hne
      refine h1.of_block (hb _ h1.lt h2.1 (h1.ne he0)) (fun k hk => ?_)
      refine hb k (h1.own.lt k hk).2 (fun e1 => ?_) (fun e1 => ?_)
      · exact he0.ne h1 (by rw [← e1]; exact hk.symm)
      · rcases h2.2 with h3 | h3
        · rw [h3] at hk; cases hk
        · exact h3 (hk.trans e1)
  · rw [← upd_const hr hn]
    refine List.pairwise_map.2 (h.ents.apart.imp_of_mem fun {a b} ha hb2 hab => ?_)
    by_cases h1 : a.1 = n <;> by_cases h2 : b.1 = n
    · exfalso
      have e1 := uniq a.2 (by rw [← h1]; exact ha)
      have e2 := uniq b.2 (by rw [← h2]; exact hb2)
      rw [e1, e2] at hab
      exact hab.1 rfl
    · rw [if_pos h1, if_neg h2]; exact (hoff' b hb2 h2).symm
    · rw [if_neg h1, if_pos h2]; exact hoff' a ha h1
    · rw [if_neg h1, if_neg h2]; exact hab
end turn
end Go.Proofs.Ytepkonhgkabkcaa
