/- Package judge: a judge's memory. No condition: definitions, and what keeps them. -/
import Derived.Test.YtepkonhgkabkcaaJsta
import Derived.Deep.AppendLies
namespace Go.Proofs.Ytepkonhgkabkcaa
open Go.RowKit Go.Maps MapI
set_option linter.unusedVariables false
set_option linter.unusedSimpArgs false

theorem ownsRow_block {w w' : World} {B : Nat} {e : TypeId} {s : Nat} {v : Value} {n : Nat} {xs : List Value} (h : w.ownsRow B e s v n xs) (hb : ∀ k, v.ownBlock = some k → w'.heap[k]? = w.heap[k]?) : w'.ownsRow B e s v n xs := by
  refine ⟨h.1, ?_⟩
  rcases h.2 with h2 | ⟨g, cap, cur, rfl, h2, h3, r⟩
  · exact .inl h2
  · exact .inr ⟨g, cap, cur, rfl, h2, (hb g rfl).trans h3, r⟩

/-- A row that is owned, or that is cut to its own length within a longer block. -/
def Cut (w : World) (B : Nat) (e : TypeId) (s : Nat) (v : Value) (n : Nat) (xs : List Value) : Prop :=
  w.ownsRow B e s v n xs ∨ (xs.length = n * s ∧ ∃ g cur, v = .slice (some ⟨g, 0, none⟩) n n ∧ B ≤ g ∧ w.heap[g]? = some (.cells cur e (0, 0)) ∧ n ≤ maxLen ∧ cur.toList.take (n * s) = xs)
section
variable {w w' : World} {B : Nat} {e : TypeId} {s : Nat} {v : Value} {n : Nat} {xs : List Value}
theorem Cut.nil : Cut w B e s (.slice none 0 0) 0 [] := .inl (World.ownsRow_nil _ _ _ _)
theorem Cut.of_block (h : Cut w B e s v n xs) (hb : ∀ k, v.ownBlock = some k → w'.heap[k]? = w.heap[k]?) : Cut w' B e s v n xs := by
  rcases h with h | ⟨h1, g, cur, rfl, h2, h3, r⟩
  · exact .inl (ownsRow_block h hb)
  · exact .inr ⟨h1, g, cur, rfl, h2, (hb g rfl).trans h3, r⟩
theorem Cut.len (h : Cut w B e s v n xs) : xs.length = n * s := by
  rcases h with h | h
  · exact h.1
  · exact h.1
theorem Cut.block (h : Cut w B e s v n xs) {k : Nat} (hk : v.ownBlock = some k) : B ≤ k ∧ ∃ cur, w.heap[k]? = some (.cells cur e (0, 0)) ∧ cur.toList.take (n * s) = xs := by
  rcases h with ⟨h1, ⟨rfl, _⟩ | ⟨g, cap, cur, rfl, h2, h3, _, _, _, h4⟩⟩ | ⟨h1, g, cur, rfl, h2, h3, _, h4⟩
  · simp [Value.ownBlock] at hk
  · have : g = k := by simpa [Value.ownBlock] using hk
    subst this; exact ⟨h2, cur, h3, h4⟩
  · have : g = k := by simpa [Value.ownBlock] using hk
    subst this; exact ⟨h2, cur, h3, h4⟩
theorem Cut.lt (h : Cut w B e s v n xs) (k : Nat) (hk : v.ownBlock = some k) : B ≤ k ∧ k < w.heap.size := by
  obtain ⟨h1, cur, h2, _⟩ := h.block hk
  exact ⟨h1, lt_of_block h2⟩
theorem Cut.cells (h : Cut w B e s v n xs) {g : Nat} (hg : v.ownBlock = some g) (j : Nat) (u : Value) (hu : xs[j]? = some u) : w.cell? ⟨g, j, none⟩ = some u := by
  obtain ⟨_, cur, h2, h3⟩ := h.block hg
  rw [cell_of_block h2, ← hu, ← h3, List.getElem?_take]
  rw [← h3, List.getElem?_take] at hu
  split at hu
  · rename_i hlt; rw [if_pos hlt]; simp
  · cases hu
theorem Cut.form (h : Cut w B e s v n xs) : ∃ A cap, v = .slice A n cap ∧ n ≤ cap ∧ cap ≤ maxLen := by
  rcases h with ⟨h1, ⟨rfl, rfl⟩ | ⟨g, cap, cur, rfl, h2, h3, h4, h5, _⟩⟩ | ⟨h1, g, cur, rfl, h2, h3, h4, _⟩
  · exact ⟨_, _, rfl, Nat.le_refl _, Nat.zero_le _⟩
  · exact ⟨_, _, rfl, h4, h5⟩
  · exact ⟨_, _, rfl, Nat.le_refl _, h4⟩
theorem Cut.formS (h : Cut w B e s v n xs) (hn : 0 < n) : ∃ g cap, v = .slice (some ⟨g, 0, none⟩) n cap ∧ n ≤ cap ∧ cap ≤ maxLen := by
  rcases h with ⟨h1, ⟨rfl, rfl⟩ | ⟨g, cap, cur, rfl, h2, h3, h4, h5, _⟩⟩ | ⟨h1, g, cur, rfl, h2, h3, h4, _⟩
  · omega
  · exact ⟨_, _, rfl, h4, h5⟩
  · exact ⟨_, _, rfl, Nat.le_refl _, h4⟩
theorem Cut.pop {g cap : Nat} {last : List Value} (h : Cut w B e s (.slice (some ⟨g, 0, none⟩) (n + 1) cap) (n + 1) (xs ++ last)) (hx : xs.length = n * s) : Cut w B e s (.slice (some ⟨g, 0, none⟩) n n) n xs := by
  obtain ⟨_, c2, h1, h2, h3⟩ := h.form
  injection h1 with _ _ h1
  subst h1
  obtain ⟨h4, cur, h5, h6⟩ := h.block (k := g) rfl
  refine .inr ⟨hx, g, cur, rfl, h4, h5, by omega, ?_⟩
  have h7 : (cur.toList.take ((n + 1) * s)).take (n * s) = (xs ++ last).take (n * s) := by rw [h6]
  rw [List.take_take, Nat.min_eq_left (Nat.mul_le_mul_right _ (by omega))] at h7
  rw [h7, ← hx]
  exact take_len _ _
end
theorem run_append_cut {P : Program} (w : World) (t ty : TypeId) (base : Nat) (e : TypeId) (i : TypeInfo) (z : Value) (size bytes : Nat) (ht : P.underlying t = some (.slice e)) (hi : P.info? e = some i) (hz : i.zero = some z)
    (hsize : i.size = size) (hby : i.bytes = bytes) (hzs : z.cells.size = size) (hsz : 0 < size)
    (v : Value) (n : Nat) (xs : List Value) (hown : Cut w base e size v n xs)
    (ad : Addr) (m c : Nat) (news : List Value) (hl : news.length = m * size) (hnews : ∀ j u, news[j]? = some u → w.cell? (ad.add j) = some u) (h1 : ∀ u ∈ news, u.oneCell' = true)
    (hm : 0 < m) (h63 : n + m ≤ maxLen) (hbytes : (n + m) * bytes ≤ 140737488355328) (hbase : base ≤ w.heap.size) (H : Nat) (hH : w.heap.size = H) :
    ∃ g cap w', (Builtin.append_ #[t, t] ty #[v, .slice (some ad) m c]).run P w = .ok (.slice (some ⟨g, 0, none⟩) (n + m) cap) w' ∧
      w'.ownsRow base e size (.slice (some ⟨g, 0, none⟩) (n + m) cap) (n + m) (xs ++ news) ∧ w.grownBy w' v.ownBlock ∧ (v.ownBlock = some g ∨ g = H) ∧ g < w'.heap.size := by
  rcases hown with hown | ⟨hxl, g, cur, rfl, hb, hg, hn, htk⟩
  · exact run_append_lies (P := P) w t ty base e i z size bytes ht hi hz hsize hby hzs hsz v n xs hown ad m c news hl hnews h1 hm h63 hbytes hbase H hH
  · have hcells : ∀ j u, xs[j]? = some u → w.cell? ((⟨g, 0, none⟩ : Addr).add j) = some u := fun j u hu => by
      have hadd : (⟨g, 0, none⟩ : Addr).add j = ⟨g, j, none⟩ := by unfold Addr.add; split <;> simp_all
      rw [hadd]
      exact Cut.cells (.inr ⟨hxl, g, cur, rfl, hb, hg, hn, htk⟩) (g := g) rfl j u hu
    have hrun := run_append_grow (P := P) w t ty e i z ht hi hz ⟨g, 0, none⟩ n n xs (by rw [hsize]; exact hxl) hcells ad m c news (by rw [hsize]; exact hl) hnews (by omega) (by unfold maxLen at h63; omega)
      (growslice_fits (by omega) (by rw [hby]; exact hbytes))
    refine ⟨_, _, _, hrun, ?_, ?_, .inr hH, ?_⟩
    · have hge := grownCap_ge w (n + m) n e
      have hle := grownCap_le_maxLen w (n + m) n e h63
      refine ⟨by rw [List.length_append, hxl, hl, Nat.add_mul], .inr ⟨w.heap.size, _, _, rfl, hbase, heap_alloc_new w.drew _, hge, hle, ?_, ?_⟩⟩
      · have : (Builtin.zeroCells z.cells (grownCap w (n + m) n e - (n + m))).size = (grownCap w (n + m) n e - (n + m)) * size := by
          simp [Builtin.zeroCells, hzs]
        rw [Array.size_append, Array.size_append, List.size_toArray, List.size_toArray, this, hxl, hl, ← Nat.add_mul, ← Nat.add_mul]
        congr 1; omega
      · rw [Array.toList_append, Array.toList_append]
        have hlen : (xs ++ news).length = (n + m) * size := by rw [List.length_append, hxl, hl, Nat.add_mul]
        rw [← hlen, List.toList_toArray, List.toList_toArray]
        exact take_len _ _
    · exact ⟨rfl, rfl, rfl, by show w.heap.size ≤ (w.drew.alloc _).heap.size; rw [World.size_alloc]; exact Nat.le_succ _, fun k hk _ => Below.heap_alloc w.drew _ k hk⟩
    · show w.heap.size < (w.drew.alloc _).heap.size; rw [World.size_alloc]; exact Nat.lt_succ_self _
theorem step_append_run {P : Program} {ops : Array Oper} {o : Oper} {a : Act} {w : World} {K : Act → World → Prop} {Q : Exit → Act → World → Prop} {E : Prop} (hgd : o.guard = none) (s x : Operand) (t : TypeId)
    (ho : o.op = .call { callee := .builtin .append, args := #[s, x], argTypes := #[t, t] }) (v u : Value) (hs : a.eval s = v) (hx : a.eval x = u) {v' : Value} {w' : World}
    (hr : (Builtin.append_ #[t, t] o.type #[v, u]).run P w = .ok v' w') (h : K (a.put o.dst v') w') : if Region.wanted o (yielded ops a.tmps) = true then Oper.wp P o a w K Q else E := by
  have hw : Region.wanted o (yielded ops a.tmps) = true := by simp [Region.wanted, hgd]
  rw [if_pos hw]
  unfold Oper.wp execOp
  simp only [ho, resolve, invoke, builtin, Sem.run_bind, Sem.run_pure, Result.andThen_ok, List.map_toArray, List.map_cons, List.map_nil, hs, hx, hr]
  exact h
end Go.Proofs.Ytepkonhgkabkcaa
