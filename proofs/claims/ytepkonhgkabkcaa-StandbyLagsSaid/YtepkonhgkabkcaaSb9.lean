/- Package standby: the pages cloned. No condition. -/
import Derived.Test.YtepkonhgkabkcaaSb5
namespace Go.Proofs.Ytepkonhgkabkcaa
open Go.RowKit Go.Maps MapI
set_option linter.unusedVariables false
set_option linter.unusedSimpArgs false

theorem pgsIn_get {cs : Array Value} {ps : List Pg} (h : PgsIn cs 0 ps) {j : Nat} {v : Value} (hj : (pgCells ps)[j]? = some v) : cs[j]? = some v := by
  have hl : j < (pgCells ps).length := (List.getElem?_eq_some_iff.1 hj).1
  rw [pgCells_length] at hl
  obtain ⟨p, hp⟩ : ∃ p, ps[j / 2]? = some p := ⟨_, List.getElem?_eq_getElem (by omega)⟩
  obtain ⟨a1, a2⟩ := pgCells_get hp
  obtain ⟨b1, b2⟩ := h _ _ hp
  rw [Nat.zero_add] at b1 b2
  rcases (show j = j / 2 * 2 ∨ j = j / 2 * 2 + 1 by omega) with e | e
  · rw [e] at hj ⊢
    rw [a1] at hj
    rw [b1, hj]
  · rw [e] at hj ⊢
    rw [a2] at hj
    rw [b2, hj]
theorem pgsIn_take {cur : Array Value} {ps : List Pg} {n : Nat} (hn : ps.length = n) (ht : cur.toList.take (n * 2) = pgCells ps) : PgsIn cur 0 ps := by
  intro i p hp
  have hi : i < ps.length := (List.getElem?_eq_some_iff.1 hp).1
  obtain ⟨a1, a2⟩ := pgCells_get hp
  rw [← ht] at a1 a2
  rw [List.getElem?_take_of_lt (by omega), Array.getElem?_toList] at a1 a2
  rw [Nat.zero_add]
  exact ⟨a1, a2⟩
set_option maxHeartbeats 2000000 in
set_option maxRecDepth 100000 in
theorem clone2_calls {w : World} {g c : Nat} {ps : List Pg} {cs : Array Value} (h1 : 1 ≤ ps.length) (h8 : ps.length ≤ 8) (hg : w.heap[g]? = some (.cells cs 56 (0, 0))) (hin : PgsIn cs 0 ps) :
    Calls Try.prog 91 #[.slice (some ⟨g, 0, none⟩) ps.length c] w fun e w' => ∃ g2 cap cur, e = .returned (.slice (some ⟨g2, 0, none⟩) ps.length cap) ∧ w.heap.size ≤ g2 ∧ w'.heap[g2]? = some (.cells cur 56 (0, 0)) ∧ PgsIn cur 0 ps ∧ Below w.heap.size w w' := by
  obtain ⟨i0, hi, hz0, hz1, hz2⟩ := info_parts infoPg
  have hn := Lib.run_eql_slice_nil (P := Try.prog) w 63 56 (some ⟨g, 0, none⟩) ps.length c 0 0 Try.underlying63
  have hlen : (pgCells ps).length = ps.length * 2 := pgCells_length ps
  go_enter Try.func91, Try.ntmps91
  have hN := Lib.hid hn
  have hown : (w.alloc (.cells #[] 56)).ownsRow w.heap.size 56 2 (.slice (some ⟨w.heap.size, 0, none⟩) 0 0) 0 [] := ⟨rfl, .inr ⟨w.heap.size, 0, #[], rfl, Nat.le_refl _, heap_alloc_new _ _, Nat.le_refl _, Nat.zero_le _, rfl, rfl⟩⟩
  have hsrc : ∀ j v, (pgCells ps)[j]? = some v → (w.alloc (.cells #[] 56)).cell? ((⟨g, 0, none⟩ : Addr).add j) = some v := fun j v hj => by
    have hadd : (⟨g, 0, none⟩ : Addr).add j = ⟨g, j, none⟩ := by unfold Addr.add; split <;> simp_all
    rw [hadd]
    exact (cell_of_block ((Below.heap_alloc _ _ _ (lt_of_block hg)).trans hg) j).trans (pgsIn_get hin hj)
  have HS := Lib.hid hsrc
  have HL := Lib.hid hlen
  clear hlen hsrc hin
  go_wp2_with (at_builtin; refine wpList_append_lies _ rfl (.tmp 5) (.tmp 6) 63 rfl w.heap.size 56 i0 _ 2 24 Try.underlying63 hi hz0 hz1 hz2 rfl (by decide) _ _ _ rfl hown ⟨g, 0, none⟩ ps.length c (pgCells ps) rfl HL.out HS.out (by intro v hv; simp only [pgCells, List.mem_flatMap] at hv; obtain ⟨q, _, hv⟩ := hv; simp at hv; rcases hv with rfl | rfl <;> rfl) (by omega) (by unfold maxLen; omega) (by omega) (by simp) _ rfl ?_; intro g2 cap2 w3 hown3 hg3 hat3 hlt3)
  go_ret
  have hB : Below w.heap.size w w3 := ((Below.refl _ w).alloc (Nat.le_refl _) _).grown hg3 (by simp) (fun k hk => by cases hk; exact Nat.le_refl _)
  have hr : w3.ownsRow w.heap.size 56 2 (.slice (some ⟨g2, 0, none⟩) ps.length cap2) ps.length (pgCells ps) := by simpa using hown3
  obtain ⟨hge, cur, hcur, htk⟩ := Cut.block (.inl hr) (k := g2) rfl
  exact ⟨g2, cap2, cur, by simp, hge, hcur, pgsIn_take rfl htk, hB⟩
end Go.Proofs.Ytepkonhgkabkcaa
