/- Maps keyed by int, read as lists of pairs that rise by the key: what look-up, store, delete, len and range do to the list. Condition: none of the program; a map's block reads as the list. -/
import Derived.Maps.OwnSet
import Derived.Maps.RangeWalk
import Derived.WalkKit
import Derived.Lib.Hide
namespace Go.Proofs.Ytepkonhgkabkcaa.MapI
open Go.RowKit Go.Maps Go.WideShapes

/-! ### lists of pairs -/
section pure
variable {α : Type}
def get (k : Int) : List (Int × α) → Option α
  | [] => none
  | p :: r => if p.1 = k then some p.2 else get k r
def ins (p : Int × α) : List (Int × α) → List (Int × α)
  | [] => [p]
  | y :: r => if p.1 < y.1 then p :: y :: r else y :: ins p r
def del (k : Int) (l : List (Int × α)) : List (Int × α) := l.filter fun p => p.1 != k
def put (k : Int) (v : α) (l : List (Int × α)) : List (Int × α) := ins (k, v) (del k l)
def Rises (l : List (Int × α)) : Prop := l.Pairwise fun p q => p.1 < q.1

theorem mem_ins {p x : Int × α} : ∀ {l : List (Int × α)}, x ∈ ins p l ↔ x = p ∨ x ∈ l
  | [] => by simp [ins]
  | y :: r => by
    unfold ins
    split
    · simp
    · simp only [List.mem_cons, mem_ins (l := r)]
      constructor
      · rintro (h | h | h) <;> simp [h]
      · rintro (h | h | h) <;> simp [h]
theorem mem_del {k : Int} {x : Int × α} {l : List (Int × α)} : x ∈ del k l ↔ x ∈ l ∧ x.1 ≠ k := by simp [del]
theorem mem_put {k : Int} {v : α} {x : Int × α} {l : List (Int × α)} : x ∈ put k v l ↔ x = (k, v) ∨ x ∈ l ∧ x.1 ≠ k := by
  unfold put; rw [mem_ins, mem_del]
theorem Rises.del {k : Int} {l : List (Int × α)} (h : Rises l) : Rises (del k l) := List.Pairwise.filter _ h
theorem Rises.ins {p : Int × α} : ∀ {l : List (Int × α)}, Rises l → (∀ q ∈ l, q.1 ≠ p.1) → Rises (ins p l)
  | [], _, _ => by simp [MapI.ins, Rises]
  | y :: r, h, hne => by
    obtain ⟨h1, h2⟩ := List.pairwise_cons.1 h
    unfold MapI.ins
    split
    · rename_i hlt
      refine List.pairwise_cons.2 ⟨fun q hq => ?_, h⟩
      rcases List.mem_cons.1 hq with rfl | hq
      · exact hlt
      · have := h1 q hq; omega
    · rename_i hlt
      have hyp := hne y (by simp)
      refine List.pairwise_cons.2 ⟨fun q hq => ?_, Rises.ins h2 (fun q hq => hne q (by simp [hq]))⟩
      rcases mem_ins.1 hq with rfl | hq
      · omega
      · exact h1 q hq
theorem Rises.put {k : Int} {v : α} {l : List (Int × α)} (h : Rises l) : Rises (put k v l) :=
  Rises.ins h.del (fun _ hq => (mem_del.1 hq).2)
theorem get_mem {k : Int} {v : α} : ∀ {l : List (Int × α)}, get k l = some v → (k, v) ∈ l
  | [], h => by simp [get] at h
  | y :: r, h => by
    unfold get at h
    split at h
    · rename_i e; injection h with h; subst h; subst e; simp
    · simp [get_mem h]
theorem get_none {k : Int} : ∀ {l : List (Int × α)}, get k l = none ↔ ∀ p ∈ l, p.1 ≠ k
  | [] => by simp [get]
  | y :: r => by
    unfold get
    split
    · rename_i e; simp [e]
    · rename_i e; simp [get_none (l := r), e]
theorem get_of_mem {k : Int} {v : α} : ∀ {l : List (Int × α)}, Rises l → (k, v) ∈ l → get k l = some v
  | [], _, h => by simp at h
  | y :: r, h, hm => by
    obtain ⟨h1, h2⟩ := List.pairwise_cons.1 h
    unfold get
    rcases List.mem_cons.1 hm with rfl | hm
    · simp
    · have := h1 _ hm
      rw [if_neg (by simp at this; omega)]
      exact get_of_mem h2 hm
theorem get_ins_same {k : Int} {v : α} : ∀ {l : List (Int × α)}, (∀ q ∈ l, q.1 ≠ k) → get k (ins (k, v) l) = some v
  | [], _ => by simp [ins, get]
  | y :: r, h => by
    unfold ins
    split
    · simp [get]
    · have hy := h y (by simp)
      unfold get
      rw [if_neg hy]
      exact get_ins_same (fun q hq => h q (by simp [hq]))
theorem get_ins_other {k k' : Int} {v : α} (hne : k' ≠ k) : ∀ {l : List (Int × α)}, get k' (ins (k, v) l) = get k' l
  | [] => by simp [ins, get, Ne.symm hne]
  | y :: r => by
    unfold ins
    split
    · show get k' ((k, v) :: (y :: r)) = _
      rw [get, if_neg (by simpa using Ne.symm hne)]
    · simp only [get]
      split
      · rfl
      · exact get_ins_other hne
theorem get_del_same {k : Int} {l : List (Int × α)} : get k (del k l) = none := get_none.2 fun _ hp => (mem_del.1 hp).2
theorem get_del_other {k k' : Int} (hne : k' ≠ k) : ∀ {l : List (Int × α)}, get k' (del k l) = get k' l
  | [] => rfl
  | y :: r => by
    unfold del
    rw [List.filter_cons]
    split
    · simp only [get]
      split
      · rfl
      · exact get_del_other hne (l := r)
    · rename_i h
      have hy : y.1 = k := by simpa using h
      rw [get, if_neg (by rw [hy]; exact Ne.symm hne)]
      exact get_del_other hne (l := r)
theorem get_put_same {k : Int} {v : α} {l : List (Int × α)} : get k (put k v l) = some v := get_ins_same fun _ hq => (mem_del.1 hq).2
theorem get_put_other {k k' : Int} {v : α} (hne : k' ≠ k) {l : List (Int × α)} : get k' (put k v l) = get k' l := by
  unfold put; rw [get_ins_other hne, get_del_other hne]
theorem length_ins {p : Int × α} : ∀ {l : List (Int × α)}, (ins p l).length = l.length + 1
  | [] => rfl
  | y :: r => by unfold ins; split <;> simp [length_ins]
theorem del_of_none {k : Int} {l : List (Int × α)} (h : get k l = none) : del k l = l :=
  List.filter_eq_self.2 fun p hp => by simpa using get_none.1 h p hp
theorem length_put_new {k : Int} {v : α} {l : List (Int × α)} (h : get k l = none) : (put k v l).length = l.length + 1 := by
  unfold put; rw [length_ins, del_of_none h]
theorem length_del_le {k : Int} {l : List (Int × α)} : (del k l).length ≤ l.length := List.length_filter_le _ _
theorem length_put_le {k : Int} {v : α} {l : List (Int × α)} : (put k v l).length ≤ l.length + 1 := by
  unfold put; rw [length_ins]; have := length_del_le (k := k) (l := l); omega
/-- What stands at a key is written anew: the list is the old one, that one element turned. -/
theorem put_eq_map {k : Int} {v u : α} : ∀ {l : List (Int × α)}, Rises l → get k l = some u → put k v l = l.map fun p => if p.1 = k then (k, v) else p
  | [], _, h => by simp [get] at h
  | y :: r, h, hg => by
    obtain ⟨h1, h2⟩ := List.pairwise_cons.1 h
    unfold get at hg
    split at hg
    · rename_i e
      have hr : ∀ p ∈ r, p.1 ≠ k := fun p hp => by have := h1 p hp; omega
      have hd : del k (y :: r) = r := by
        unfold del; rw [List.filter_cons]; simp [e]; intro a b hab hh; exact hr _ hab hh
      have hm : r.map (fun p => if p.1 = k then (k, v) else p) = r := by
        conv => rhs; rw [← List.map_id r]
        exact List.map_congr_left fun p hp => by rw [if_neg (hr p hp)]; rfl
      unfold put
      rw [hd, List.map_cons, if_pos e, hm]
      cases r with
      | nil => rfl
      | cons z r' => unfold ins; rw [if_pos (by have := h1 z (by simp); simp; omega)]
    · rename_i e
      have ih := put_eq_map (v := v) h2 hg
      have hd : del k (y :: r) = y :: del k r := by unfold del; rw [List.filter_cons]; simp [e]
      have hlt : ¬ k < y.1 := by have := h1 _ (get_mem hg); simp at this; omega
      unfold put at ih ⊢
      rw [hd, List.map_cons, if_neg e, ← ih]
      conv => lhs; unfold ins
      rw [if_neg (by simpa using hlt)]
/-- One element turned. -/
def upd (k : Int) (f : α → α) (l : List (Int × α)) : List (Int × α) := l.map fun p => if p.1 = k then (p.1, f p.2) else p
theorem upd_keys (k : Int) (f : α → α) (l : List (Int × α)) : (upd k f l).map Prod.fst = l.map Prod.fst := by
  simp only [upd, List.map_map]
  exact List.map_congr_left fun p _ => by simp only [Function.comp]; split <;> rfl
theorem rises_keys {β : Type} {l : List (Int × α)} {l' : List (Int × β)} (h : Rises l) (e : l'.map Prod.fst = l.map Prod.fst) : Rises l' := by
  have h1 : (l.map Prod.fst).Pairwise (· < ·) := List.pairwise_map.2 h
  rw [← e] at h1
  exact List.pairwise_map.1 h1
theorem get_upd_same {k : Int} {f : α → α} : ∀ {l : List (Int × α)}, get k (upd k f l) = (get k l).map f
  | [] => rfl
  | y :: r => by
    show get k ((if y.1 = k then (y.1, f y.2) else y) :: upd k f r) = _
    by_cases e : y.1 = k
    · simp [e, get]
    · simp only [get, if_neg e]; exact get_upd_same
theorem get_upd_other {k k' : Int} {f : α → α} (hne : k' ≠ k) : ∀ {l : List (Int × α)}, get k' (upd k f l) = get k' l
  | [] => rfl
  | y :: r => by
    show get k' ((if y.1 = k then (y.1, f y.2) else y) :: upd k f r) = _
    by_cases e : y.1 = k
    · rw [if_pos e]; simp only [get, e, if_neg (Ne.symm hne)]; exact get_upd_other hne
    · rw [if_neg e]; simp only [get]; split
      · rfl
      · exact get_upd_other hne
theorem mem_upd {k : Int} {f : α → α} {x : Int × α} {l : List (Int × α)} : x ∈ upd k f l → (x ∈ l ∧ x.1 ≠ k) ∨ ∃ a, (k, a) ∈ l ∧ x = (k, f a) := by
  intro h
  obtain ⟨p, hp, rfl⟩ := List.mem_map.1 h
  by_cases e : p.1 = k
  · rw [if_pos e]; subst e; exact .inr ⟨p.2, hp, rfl⟩
  · rw [if_neg e]; exact .inl ⟨hp, e⟩
/-! .. and the list with each element told by a function -/
def mapv {β : Type} (f : α → β) (l : List (Int × α)) : List (Int × β) := l.map fun p => (p.1, f p.2)
theorem mapv_keys {β : Type} (f : α → β) (l : List (Int × α)) : (mapv f l).map Prod.fst = l.map Prod.fst := by simp [mapv, Function.comp_def]
theorem get_mapv {β : Type} (f : α → β) (k : Int) : ∀ l : List (Int × α), get k (mapv f l) = (get k l).map f
  | [] => rfl
  | y :: r => by
    show get k ((y.1, f y.2) :: mapv f r) = _
    simp only [get]
    split
    · rfl
    · exact get_mapv f k r
theorem mapv_ins {β : Type} (f : α → β) (k : Int) (v : α) : ∀ l : List (Int × α), mapv f (ins (k, v) l) = ins (k, f v) (mapv f l)
  | [] => rfl
  | y :: r => by
    show _ = ins (k, f v) ((y.1, f y.2) :: mapv f r)
    unfold ins
    dsimp only
    split
    · rfl
    · show (y.1, f y.2) :: mapv f (ins (k, v) r) = _
      rw [mapv_ins f k v r]
theorem mapv_del {β : Type} (f : α → β) (k : Int) : ∀ l : List (Int × α), mapv f (del k l) = del k (mapv f l)
  | [] => rfl
  | y :: r => by
    show _ = del k ((y.1, f y.2) :: mapv f r)
    have ih := mapv_del f k r
    unfold del at ih ⊢
    simp only [List.filter_cons]
    split
    · show (y.1, f y.2) :: mapv f _ = _; rw [ih]
    · exact ih
theorem mapv_put {β : Type} (f : α → β) (k : Int) (v : α) (l : List (Int × α)) : mapv f (put k v l) = put k (f v) (mapv f l) := by
  unfold put; rw [mapv_ins, mapv_del]
theorem length_mapv {β : Type} (f : α → β) (l : List (Int × α)) : (mapv f l).length = l.length := by simp [mapv]
theorem Rises.mapv {β : Type} {f : α → β} {l : List (Int × α)} (h : Rises l) : Rises (mapv f l) := rises_keys h (mapv_keys f l)
theorem mapv_upd {β : Type} (f : α → β) (k : Int) {g : α → α} {g' : β → β} {l : List (Int × α)} (h : ∀ a, (k, a) ∈ l → f (g a) = g' (f a)) : mapv f (upd k g l) = upd k g' (mapv f l) := by
  simp only [MapI.mapv, upd, List.map_map]
  refine List.map_congr_left fun p hp => ?_
  simp only [Function.comp]
  by_cases e : p.1 = k
  · simp only [if_pos e]; rw [h p.2 (by rw [← e]; exact hp)]
  · simp only [if_neg e]
end pure

/-! ### the map's block -/
def heldR (v : Value) : Option (DataW Value × List MemPlace) := some (.held v, [])
section block
variable {α : Type}
def lits (enc : α → Value) (l : List (Int × α)) : List (Lit × DataW Value) := l.map fun p => (.int .i64 p.1, .held (enc p.2))
/-- Block b is a map that reads as the list l. -/
def MapIs (P : Program) (kt : TypeId) (enc : α → Value) (w : World) (b : Nat) (l : List (Int × α)) : Prop :=
  w.ownsMap P kt heldR b l.length (.map (lits enc l)) ∧ Rises l

variable {P : Program} {kt : TypeId} {enc : α → Value} {w : World} {b : Nat} {l : List (Int × α)}

theorem MapIs.rises (h : MapIs P kt enc w b l) : Rises l := h.2
theorem MapIs.lt (h : MapIs P kt enc w b l) : b < w.heap.size := h.1.lt
theorem MapIs.kept {w' : World} (h : MapIs P kt enc w b l) {row : Option Nat} (hg : w.grownBy w' row) (hne : some b ≠ row) : MapIs P kt enc w' b l := ⟨h.1.kept hg hne, h.2⟩
theorem MapIs.of_block {w' : World} (h : MapIs P kt enc w b l) (hb : w'.heap[b]? = w.heap[b]?) : MapIs P kt enc w' b l := by
  obtain ⟨⟨es, clock, h1, h2⟩, h3⟩ := h
  exact ⟨⟨es, clock, hb.trans h1, h2⟩, h3⟩
theorem MapIs.congr {β : Type} {enc' : β → Value} {l' : List (Int × β)} (h : MapIs P kt enc w b l) (e : mapv enc' l' = mapv enc l) : MapIs P kt enc' w b l' := by
  have hl : lits enc' l' = lits enc l := by
    have h1 := congrArg (List.map fun p : Int × Value => ((Lit.int .i64 p.1, DataW.held p.2) : Lit × DataW Value)) e
    simpa [lits, MapI.mapv, Function.comp_def] using h1
  have hk : l'.map Prod.fst = l.map Prod.fst := by rw [← mapv_keys enc' l', e, mapv_keys]
  have hn : l'.length = l.length := by have := congrArg List.length hk; simpa using this
  exact ⟨by rw [hl, hn]; exact h.1, rises_keys h.2 hk⟩
theorem MapIs.made (w : World) (P : Program) (kt : TypeId) (enc : α → Value) : MapIs P kt enc (w.alloc (.map #[] 0)) w.heap.size [] :=
  ⟨World.ownsMap_made w P kt heldR, List.Pairwise.nil⟩
theorem MapIs.heap (h : MapIs P kt enc w b l) : ∃ es clock, w.heap[b]? = some (.map es clock) := by
  obtain ⟨⟨es, clock, h1, _⟩, _⟩ := h
  exact ⟨es, clock, h1⟩

theorem sameKey_int (a c : Int) : (Lit.int .i64 a).sameKey (.int .i64 c) = decide (a = c) := by simp [Lit.sameKey]

theorem find_lits (k : Int) : ∀ l : List (Int × α), (lits enc l).find? (fun p => p.1.sameKey (.int .i64 k)) = (get k l).map fun v => (.int .i64 k, .held (enc v))
  | [] => rfl
  | y :: r => by
    show List.find? _ ((.int .i64 y.1, DataW.held (enc y.2)) :: lits enc r) = _
    rw [List.find?_cons, sameKey_int]
    unfold get
    by_cases e : y.1 = k
    · simp [e]
    · simp [e, find_lits k r]
theorem atKey_lits (k : Int) (z : DataW Value) : (DataW.map (lits enc l)).atKey (.int .i64 k) z = (match get k l with | some v => .held (enc v) | none => z) := by
  simp only [DataW.atKey, find_lits]
  cases get k l <;> rfl
theorem has_lits (k : Int) : Maps.has (DataW.map (lits enc l)) (.int .i64 k) = (get k l).isSome := by
  rw [Maps.has_eq]
  have h := find_lits (enc := enc) k l
  cases hg : get k l with
  | none =>
    rw [hg] at h
    simp only [Option.map_none, List.find?_eq_none] at h
    rw [List.any_eq_false.2 (fun p hp => by simpa using h p hp)]; rfl
  | some v =>
    rw [hg] at h
    have hs : ((lits enc l).find? (fun p => p.1.sameKey (.int .i64 k))).isSome = true := by rw [h]; rfl
    obtain ⟨p, hp, hk⟩ := List.find?_isSome.1 hs
    rw [List.any_eq_true.2 ⟨p, hp, hk⟩]; rfl
theorem size_lits : Maps.size (DataW.map (lits enc l)) = l.length := by simp [Maps.size, lits]
theorem filter_lits (k : Int) : ∀ l : List (Int × α), (lits enc l).filter (fun p => !p.1.sameKey (.int .i64 k)) = lits enc (del k l)
  | [] => rfl
  | y :: r => by
    show List.filter _ ((.int .i64 y.1, DataW.held (enc y.2)) :: lits enc r) = _
    rw [List.filter_cons, sameKey_int, filter_lits k r]
    unfold del
    rw [List.filter_cons]
    by_cases e : y.1 = k <;> simp [e, lits]
theorem insert_lits (k : Int) (v : α) : ∀ l : List (Int × α), DataW.insert (.int .i64 k, .held (enc v)) (lits enc l) = lits enc (ins (k, v) l)
  | [] => rfl
  | y :: r => by
    show DataW.insert _ ((.int .i64 y.1, DataW.held (enc y.2)) :: lits enc r) = _
    unfold DataW.insert ins
    simp only [Lit.before]
    by_cases e : k < y.1
    · simp [e, lits]
    · simp [e, lits]
      exact insert_lits k v r
theorem del_lits (k : Int) : (DataW.map (lits enc l)).del (.int .i64 k) = .map (lits enc (del k l)) := by simp only [DataW.del, filter_lits]
theorem put_lits (k : Int) (v : α) : (DataW.map (lits enc l)).put (.int .i64 k) (.held (enc v)) = .map (lits enc (put k v l)) := by
  simp only [DataW.put, filter_lits, insert_lits, MapI.put]

theorem ownsMap_size {n m : Nat} {D : DataW Value} (h : w.ownsMap P kt heldR b n D) (hm : Maps.size D = m) : w.ownsMap P kt heldR b m D := by
  obtain ⟨es, clock, hb, F, _, rfl⟩ := h
  exact ⟨es, clock, hb, F, by rw [← hm]; simp [Maps.size, length_sorted], rfl⟩
end block

/-! ### at the operation -/
section walk
variable {α : Type} {P : Program} {kt : TypeId} {enc : α → Value} (w : World) {ops : Array Oper} {rest : List Oper} {o : Oper} {a : Act} {Q : Exit → Act → World → Prop}

theorem look_ok (hg : o.guard = none) (m x : Operand) (t e : TypeId) (hop : o.op = Op.lookup t m x true) (hk : P.underlying kt = some (.int .i64)) (ht : P.underlying t = some (.map kt e))
    {z : Value} (hz : (zeroValue e).run P w = .ok z w) (b : Nat) (l : List (Int × α)) (hm : a.eval m = .map (some b)) (h : MapIs P kt enc w b l) (k : Int) (hx : a.eval x = .int .i64 k) (hwf : (Lit.int .i64 k).wf = true)
    (hK : wpList P ops Q rest (a.put o.dst (.tuple #[((get k l).map enc).getD z, .bool (get k l).isSome])) w) : wpList P ops Q (o :: rest) a w := by
  refine wpList_lookup_own_ok w hg m x t hop kt e (int_keyed hk) ht heldR hz (.held z) [] rfl b _ _ hm h.1 _ (.int .i64 k) hx (keyOf_int_mk hk hwf) (fun v ps hv => ?_)
  rw [atKey_lits] at hv
  rw [has_lits]
  have : v = ((get k l).map enc).getD z := by
    unfold heldR at hv
    injection hv with hv
    injection hv with hv _
    cases hgk : get k l with
    | none => rw [hgk] at hv; injection hv
    | some u => rw [hgk] at hv; injection hv
  rw [this]; exact hK

theorem look (hg : o.guard = none) (m x : Operand) (t e : TypeId) (hop : o.op = Op.lookup t m x false) (hk : P.underlying kt = some (.int .i64)) (ht : P.underlying t = some (.map kt e))
    {z : Value} (hz : (zeroValue e).run P w = .ok z w) (b : Nat) (l : List (Int × α)) (hm : a.eval m = .map (some b)) (h : MapIs P kt enc w b l) (k : Int) (hx : a.eval x = .int .i64 k) (hwf : (Lit.int .i64 k).wf = true)
    (hK : wpList P ops Q rest (a.put o.dst (((get k l).map enc).getD z)) w) : wpList P ops Q (o :: rest) a w := by
  refine wpList_plain hg fun K' hK' => ?_
  obtain ⟨v, ps, hrun, hv⟩ := h.1.lookup (int_keyed hk) ht hz (zd := .held z) (zp := []) rfl (keyOf_int_mk hk hwf)
  rw [atKey_lits] at hv
  have : v = ((get k l).map enc).getD z := by
    unfold heldR at hv
    injection hv with hv
    injection hv with hv _
    cases hgk : get k l with
    | none => rw [hgk] at hv; injection hv
    | some u => rw [hgk] at hv; injection hv
  unfold Oper.wp
  simp [execOp, hop, hm, hx, hrun, Result.andThen]
  rw [this]
  exact hK' _ _ hK

theorem store (hg : o.guard = none) (m x v : Operand) (t e : TypeId) (hop : o.op = Op.mapUpdate t m x v) (hk : P.underlying kt = some (.int .i64)) (ht : P.underlying t = some (.map kt e))
    (b : Nat) (l : List (Int × α)) (hm : a.eval m = .map (some b)) (h : MapIs P kt enc w b l) (hn : l.length < maxLen) (k : Int) (hx : a.eval x = .int .i64 k) (hwf : (Lit.int .i64 k).wf = true) (u : α) (hv : a.eval v = enc u)
    (hK : ∀ w', MapIs P kt enc w' b (put k u l) → w.mapTurned w' b → wpList P ops Q rest (a.put o.dst undef) w') : wpList P ops Q (o :: rest) a w := by
  refine wpList_mapUpdate_in w hg m x v t hop kt e (int_keyed hk) ht heldR b _ _ hm h.1 hn _ _ (.int .i64 k) hx hv (keyOf_int_mk hk hwf) (.held (enc u)) [] rfl (fun w' h1 h2 => hK w' ⟨?_, h.2.put⟩ h2)
  rw [put_lits] at h1
  exact ownsMap_size h1 size_lits

theorem strike (hg : o.guard = none) (m x : Operand) (t e : TypeId) (hop : o.op = Op.call { callee := Callee.builtin Builtin.delete, args := #[m, x], argTypes := #[t, kt] }) (hk : P.underlying kt = some (.int .i64)) (ht : P.underlying t = some (.map kt e))
    (b : Nat) (l : List (Int × α)) (hm : a.eval m = .map (some b)) (h : MapIs P kt enc w b l) (k : Int) (hx : a.eval x = .int .i64 k) (hwf : (Lit.int .i64 k).wf = true)
    (hK : ∀ w', MapIs P kt enc w' b (del k l) → w.mapTurned w' b → wpList P ops Q rest (a.put o.dst (.tuple #[])) w') : wpList P ops Q (o :: rest) a w := by
  refine wpList_delete_own w hg m x t kt hop e (int_keyed hk) ht heldR b _ _ hm h.1 _ (.int .i64 k) hx (keyOf_int_mk hk hwf) (fun w' h1 h2 => hK w' ⟨?_, h.2.del⟩ h2)
  rw [del_lits] at h1
  exact ownsMap_size h1 size_lits

theorem length (hg : o.guard = none) (m : Operand) (t e : TypeId) (hop : o.op = Op.call { callee := Callee.builtin Builtin.len, args := #[m], argTypes := #[t] }) (ht : P.underlying t = some (.map kt e))
    (b : Nat) (l : List (Int × α)) (hm : a.eval m = .map (some b)) (h : MapIs P kt enc w b l)
    (hK : wpList P ops Q rest (a.put o.dst (.int .i64 (l.length : Int))) w) : wpList P ops Q (o :: rest) a w := by
  refine wpList_len_own w hg m t hop kt e ht heldR b _ _ hm h.1 ?_
  rw [size_lits]; exact hK

/-! ### range -/
/-- Block b is the map l; block r is an iterator over it, to which the pairs 'todo' are still to come. -/
def Ranging (P : Program) (kt : TypeId) (enc : α → Value) (w : World) (b r : Nat) (l todo : List (Int × α)) (cnt : Nat) : Prop :=
  ∃ left, w.ranges P kt heldR b r l.length (.map (lits enc l)) left cnt ∧ Rises l ∧ todo = l.filter (fun p => left (.int .i64 p.1))
variable {w} {b r : Nat} {l todo : List (Int × α)} {cnt : Nat}
theorem Ranging.is (h : Ranging P kt enc w b r l todo cnt) : MapIs P kt enc w b l := by
  obtain ⟨left, h1, h2, _⟩ := h
  exact ⟨h1.owns, h2⟩
theorem Ranging.kept {w' : World} {row : Option Nat} (h : Ranging P kt enc w b r l todo cnt) (hg : w.grownBy w' row) (hb : some b ≠ row) (hr : some r ≠ row) : Ranging P kt enc w' b r l todo cnt := by
  obtain ⟨left, h1, h2⟩ := h
  exact ⟨left, h1.kept hg hb hr, h2⟩
theorem Ranging.left_eq (h : Ranging P kt enc w b r l todo cnt) : w.rangeLeft b r = cnt := by
  obtain ⟨left, h1, _⟩ := h
  exact h1.left_eq
theorem Ranging.ne (h : Ranging P kt enc w b r l todo cnt) : r ≠ b := by
  obtain ⟨left, h1, _⟩ := h
  exact h1.ne
theorem Ranging.lt (h : Ranging P kt enc w b r l todo cnt) : r < w.heap.size := by
  obtain ⟨left, h1, _⟩ := h
  exact h1.lt
variable (w)
theorem range_start (hg : o.guard = none) (m : Operand) (t e : TypeId) (hop : o.op = Op.range t m) (hk : P.underlying kt = some (.int .i64)) (ht : P.underlying t = some (.map kt e)) (b : Nat) (l : List (Int × α))
    (hm : a.eval m = .map (some b)) (h : MapIs P kt enc w b l)
    (hK : ∀ w' cnt, Ranging P kt enc w' b w.heap.size l l cnt → w.grownBy w' none → w'.heap.size = w.heap.size + 1 → wpList P ops Q rest (a.put o.dst (.pointer (some ⟨w.heap.size, 0, none⟩))) w') : wpList P ops Q (o :: rest) a w := by
  refine wpList_range_own w hg m t hop kt e (int_keyed hk) ht heldR b _ _ hm h.1 (fun w' h1 h2 h3 => hK w' _ ⟨_, h1, h.2, ?_⟩ h2 h3)
  refine (List.filter_eq_self.2 fun p hp => ?_).symm
  rw [has_lits]
  have := get_of_mem h.2 (k := p.1) (v := p.2) hp
  rw [this]; rfl

theorem range_next (hg : o.guard = none) (it : Operand) (hop : o.op = Op.next it false) (hk : P.underlying kt = some (.int .i64)) (b r : Nat) (l todo : List (Int × α)) (cnt : Nat)
    (hit : a.eval it = .pointer (some ⟨r, 0, none⟩)) (h : Ranging P kt enc w b r l todo cnt)
    (hDone : todo = [] → wpList P ops Q rest (a.put o.dst (.tuple #[.bool false])) w)
    (hMore : ∀ (x : Int) (u : α) (w' : World) (cnt' : Nat), (x, u) ∈ todo → get x l = some u → (Lit.int .i64 x).wf = true → Ranging P kt enc w' b r l (del x todo) cnt' → cnt' < cnt → w.grownBy w' (some r) → w'.heap.size = w.heap.size →
      (Instr.entry (.pointer (some ⟨r, 0, none⟩))).run P w' = .ok (.tuple #[.int .i64 x, enc u]) w' → wpList P ops Q rest (a.put o.dst (.tuple #[.bool true, .int .i64 x, enc u])) w') : wpList P ops Q (o :: rest) a w := by
  obtain ⟨left, h1, h2, rfl⟩ := h
  refine wpList_next_ranges (α := Int) (β := Value) w hg it hop kt (int_keyed hk) heldR (Value.int .i64) id (fun key kl hkey => by obtain ⟨x, rfl, _⟩ := Maps.keyOf_int_inv hk hkey; exact ⟨x, rfl⟩) (fun v y hv => ⟨v, rfl⟩) b r _ _ left cnt hit h1 (fun _ hl => hDone ?_) (fun x c kl y w' cnt' hkey hlk hv hat hrg hlt hgr hsz hen => ?_)
  · exact List.filter_eq_nil_iff.2 fun p _ => by simp [hl]
  · obtain ⟨x', ex, rfl, hwx⟩ := Maps.keyOf_int_inv hk hkey
    injection ex with _ ex
    subst ex
    have hyc : y.1 = .held c := by unfold heldR at hv; injection hv with hv; rw [← hv]; rfl
    have hgx : ∃ u, get x l = some u ∧ enc u = c := by
      have h3 := hat .nil
      rw [atKey_lits] at h3
      cases hgk : get x l with
      | none => rw [hgk, hyc] at h3; cases h3
      | some u => rw [hgk, hyc] at h3; injection h3 with h3; exact ⟨u, rfl, h3⟩
    obtain ⟨u, hu, rfl⟩ := hgx
    refine hMore x u w' cnt' ?_ hu hwx ⟨_, hrg, h2, ?_⟩ hlt hgr hsz hen
    · exact List.mem_filter.2 ⟨get_mem hu, hlk⟩
    · unfold del
      rw [List.filter_filter]
      refine List.filter_congr fun p _ => ?_
      rw [sameKey_int]
      by_cases e : p.1 = x <;> simp [e]
end walk

end Go.Proofs.Ytepkonhgkabkcaa.MapI
