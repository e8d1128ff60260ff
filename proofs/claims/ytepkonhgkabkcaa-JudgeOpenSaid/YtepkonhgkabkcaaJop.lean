/- JudgeOpen, plainly: who is open has its last record there. No condition. -/
import Derived.Test.YtepkonhgkabkcaaJawk
namespace Go.Proofs.Ytepkonhgkabkcaa
open Go.RowKit Go.Maps MapI
set_option linter.unusedVariables false
set_option linter.unusedSimpArgs false

def inTx (x : En) (n : Int) : Bool := decide (1 ≤ x.2.kind) && (decide (x.2.kind ≤ 4) && x.2.txn == n)
def lastA (n : Int) (es : List En) : Nat → Nat × Bool
  | 0 => (0, true)
  | i + 1 => match es[i]? with
    | some x => if inTx x n then (i, decide (3 ≤ x.2.kind)) else lastA n es i
    | none => lastA n es i
def OpInv (es : List En) (i : Nat) : Prop := ∀ p ∈ (runJ st0 (es.take i)).opn, p.2.num = p.1 ∧ (lastA p.1 es i).2 = false ∧ ∃ x, es[(lastA p.1 es i).1]? = some x ∧ x.1 = p.2.last
theorem lastA_in {n : Int} {es : List En} {i : Nat} {x : En} (hx : es[i]? = some x) (h : inTx x n = true) : lastA n es (i + 1) = (i, decide (3 ≤ x.2.kind)) := by
  show (match es[i]? with | some x => if inTx x n then (i, decide (3 ≤ x.2.kind)) else lastA n es i | none => lastA n es i) = _
  rw [hx]; simp [h]
theorem lastA_out {n : Int} {es : List En} {i : Nat} {x : En} (hx : es[i]? = some x) (h : inTx x n = false) : lastA n es (i + 1) = lastA n es i := by
  show (match es[i]? with | some x => if inTx x n then (i, decide (3 ≤ x.2.kind)) else lastA n es i | none => lastA n es i) = _
  rw [hx]; simp [h]
theorem inTx_ne {x : En} {n : Int} (h : x.2.txn ≠ n) : inTx x n = false := by
  unfold inTx; simp [h]
theorem openT_num {s : JSt} {a : Int} {r : Rc} (h : ∀ p ∈ s.opn, p.2.num = p.1) : (openT s a r).num = r.txn := by
  unfold openT
  cases hg : get r.txn s.opn with
  | none => rfl
  | some t => exact h _ (MapI.get_mem hg)
theorem opInv_step {es : List En} {i : Nat} (h : OpInv es i) : OpInv es (i + 1) := by
  cases hx : es[i]? with
  | none =>
    intro p hp
    have e1 : es.take (i + 1) = es.take i := by rw [List.take_add_one, hx]; simp
    rw [e1] at hp
    have e2 : lastA p.1 es (i + 1) = lastA p.1 es i := by
      show (match es[i]? with | some x => if inTx x p.1 then (i, decide (3 ≤ x.2.kind)) else lastA p.1 es i | none => lastA p.1 es i) = _
      rw [hx]
    rw [e2]; exact h p hp
  | some x =>
    have htk : es.take (i + 1) = es.take i ++ [x] := by rw [List.take_add_one, hx]; rfl
    intro p hp
    rw [htk, runJ_snoc] at hp
    have hnum : ∀ p ∈ (lastJ (runJ st0 (es.take i)) x.1).opn, p.2.num = p.1 := fun p hp => (h p hp).1
    have hold : ∀ p ∈ (runJ st0 (es.take i)).opn, p.1 ≠ x.2.txn → p.2.num = p.1 ∧ (lastA p.1 es (i + 1)).2 = false ∧ ∃ y, es[(lastA p.1 es (i + 1)).1]? = some y ∧ y.1 = p.2.last := fun p hp hne => by
      rw [lastA_out hx (inTx_ne (Ne.symm hne))]; exact h p hp
    have hput : ∀ t : JTx, t.num = x.2.txn → t.last = x.1 → x.2.kind = 1 ∨ x.2.kind = 2 → p ∈ MapI.put x.2.txn t (runJ st0 (es.take i)).opn → p.2.num = p.1 ∧ (lastA p.1 es (i + 1)).2 = false ∧ ∃ y, es[(lastA p.1 es (i + 1)).1]? = some y ∧ y.1 = p.2.last := fun t h1 h2 hk hp => by
      rcases mem_put.1 hp with rfl | ⟨hp, hne⟩
      · have hin : inTx x x.2.txn = true := by unfold inTx; rcases hk with hk | hk <;> simp [hk]
        dsimp only
        rw [lastA_in hx hin]
        exact ⟨h1, by rcases hk with hk | hk <;> simp [hk], x, hx, h2.symm⟩
      · exact hold p hp hne
    have hdel : p ∈ MapI.del x.2.txn (runJ st0 (es.take i)).opn → p.2.num = p.1 ∧ (lastA p.1 es (i + 1)).2 = false ∧ ∃ y, es[(lastA p.1 es (i + 1)).1]? = some y ∧ y.1 = p.2.last := fun hp => by
      obtain ⟨hp, hne⟩ := mem_del.1 hp
      exact hold p hp hne
    have hsame : ¬ (x.2.kind = 1 ∨ x.2.kind = 2 ∨ x.2.kind = 3 ∨ x.2.kind = 4) → p ∈ (runJ st0 (es.take i)).opn → p.2.num = p.1 ∧ (lastA p.1 es (i + 1)).2 = false ∧ ∃ y, es[(lastA p.1 es (i + 1)).1]? = some y ∧ y.1 = p.2.last := fun hk hp => by
      have hin : inTx x p.1 = false := by
        unfold inTx
        cases h1 : decide (1 ≤ x.2.kind) with
        | false => rfl
        | true =>
          cases h4 : decide (x.2.kind ≤ 4) with
          | false => rfl
          | true =>
            exfalso
            have g1 := of_decide_eq_true h1
            have g4 := of_decide_eq_true h4
            omega
      rw [lastA_out hx hin]; exact h p hp
    unfold stepJ entryJ at hp
    by_cases hk : x.2.kind = 1 ∨ x.2.kind = 2 ∨ x.2.kind = 3 ∨ x.2.kind = 4
    · rw [if_pos hk] at hp
      unfold ownJ at hp
      by_cases h1 : x.2.kind = 1
      · rw [if_pos h1] at hp
        refine hput _ ?_ ?_ (.inl h1) hp
        · exact openT_num hnum
        · rfl
      · rw [if_neg h1] at hp
        by_cases h2 : x.2.kind = 2
        · rw [if_pos h2] at hp
          refine hput _ ?_ ?_ (.inr h2) hp
          · exact openT_num hnum
          · rfl
        · rw [if_neg h2] at hp
          by_cases h4 : x.2.kind = 4
          · rw [if_pos h4] at hp; exact hdel hp
          · rw [if_neg h4] at hp; exact hdel hp
    · rw [if_neg hk] at hp
      by_cases h5 : x.2.kind = 5
      · rw [if_pos h5] at hp; exact hsame hk hp
      · rw [if_neg h5] at hp
        by_cases h6 : x.2.kind = 6
        · rw [if_pos h6] at hp; exact hsame hk hp
        · rw [if_neg h6] at hp; exact hsame hk hp
theorem op_law (es : List En) : ∀ i, OpInv es i
  | 0 => by intro p hp; simp [runJ, st0] at hp
  | i + 1 => opInv_step (op_law es i)
theorem op_full (es : List En) : ∀ p ∈ (runJ st0 es).opn, p.2.num = p.1 ∧ (lastA p.1 es es.length).2 = false ∧ ∃ x, es[(lastA p.1 es es.length).1]? = some x ∧ x.1 = p.2.last := by
  have := op_law es es.length
  unfold OpInv at this
  rwa [List.take_of_length_le (Nat.le_refl _)] at this
end Go.Proofs.Ytepkonhgkabkcaa
