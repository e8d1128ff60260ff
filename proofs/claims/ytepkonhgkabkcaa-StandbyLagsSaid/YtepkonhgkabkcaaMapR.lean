/- A map keyed by int: its operations as equations of runs (for regions that draw). No condition. -/
import Derived.Test.YtepkonhgkabkcaaMapI
namespace Go.Proofs.Ytepkonhgkabkcaa
namespace MapI
open Go.RowKit Go.Maps
variable {α : Type} {P : Program} {kt : TypeId} {enc : α → Value} {w : World} {b : Nat} {l : List (Int × α)}
theorem MapIs.run_look_ok (h : MapIs P kt enc w b l) {t e : TypeId} (hk : P.underlying kt = some (.int .i64)) (ht : P.underlying t = some (.map kt e)) {z : Value} (hz : (zeroValue e).run P w = .ok z w) {k : Int} (hwf : (Lit.int .i64 k).wf = true) :
    (Instr.lookup t (.map (some b)) (.int .i64 k) true).run P w = .ok (.tuple #[((get k l).map enc).getD z, .bool (get k l).isSome]) w := by
  obtain ⟨v, ps, hrun, hv⟩ := h.1.look_ok (int_keyed hk) ht hz (zd := .held z) (zp := []) rfl (keyOf_int_mk hk hwf)
  rw [atKey_lits] at hv
  rw [has_lits] at hrun
  have : v = ((get k l).map enc).getD z := by
    unfold heldR at hv
    injection hv with hv
    injection hv with hv _
    cases hgk : get k l with
    | none => rw [hgk] at hv; injection hv
    | some u => rw [hgk] at hv; injection hv
  rw [← this]; exact hrun
theorem MapIs.run_look (h : MapIs P kt enc w b l) {t e : TypeId} (hk : P.underlying kt = some (.int .i64)) (ht : P.underlying t = some (.map kt e)) {z : Value} (hz : (zeroValue e).run P w = .ok z w) {k : Int} (hwf : (Lit.int .i64 k).wf = true) :
    (Instr.lookup t (.map (some b)) (.int .i64 k) false).run P w = .ok (((get k l).map enc).getD z) w := by
  obtain ⟨v, ps, hrun, hv⟩ := h.1.lookup (int_keyed hk) ht hz (zd := .held z) (zp := []) rfl (keyOf_int_mk hk hwf)
  rw [atKey_lits] at hv
  have : v = ((get k l).map enc).getD z := by
    unfold heldR at hv
    injection hv with hv
    injection hv with hv _
    cases hgk : get k l with
    | none => rw [hgk] at hv; injection hv
    | some u => rw [hgk] at hv; injection hv
  rw [← this]; exact hrun
theorem MapIs.run_strike (h : MapIs P kt enc w b l) {t e : TypeId} (hk : P.underlying kt = some (.int .i64)) (ht : P.underlying t = some (.map kt e)) {k : Int} (hwf : (Lit.int .i64 k).wf = true) (ty : TypeId) :
    ∃ w', (Builtin.delete_ #[t, kt] ty #[.map (some b), .int .i64 k]).run P w = .ok (.tuple #[]) w' ∧ MapIs P kt enc w' b (del k l) ∧ w.mapTurned w' b := by
  obtain ⟨w', hrun, h1, h2⟩ := h.1.drop (int_keyed hk) ht (keyOf_int_mk hk hwf) ty
  rw [del_lits] at h1
  exact ⟨w', hrun, ⟨ownsMap_size h1 size_lits, h.2.del⟩, h2⟩
theorem MapIs.run_store (h : MapIs P kt enc w b l) {t e : TypeId} (hk : P.underlying kt = some (.int .i64)) (ht : P.underlying t = some (.map kt e)) (hn : l.length < maxLen) {k : Int} (hwf : (Lit.int .i64 k).wf = true) (u : α) :
    ∃ w', (Instr.mapUpdate t (.map (some b)) (.int .i64 k) (enc u)).run P w = .ok () w' ∧ MapIs P kt enc w' b (put k u l) ∧ w.mapTurned w' b := by
  obtain ⟨w', hrun, h1, h2⟩ := h.1.store (int_keyed hk) ht hn (keyOf_int_mk hk hwf) (val := enc u) (d := .held (enc u)) (ps := []) rfl
  rw [put_lits] at h1
  exact ⟨w', hrun, ⟨ownsMap_size h1 size_lits, h.2.put⟩, h2⟩
theorem upd_const {α : Type} {k : Int} {v u : α} {l : List (Int × α)} (hr : Rises l) (hg : get k l = some u) : upd k (fun _ => v) l = put k v l := by
  rw [put_eq_map hr hg]
  unfold upd
  refine List.map_congr_left fun p _ => ?_
  split
  · rename_i h; rw [h]
  · rfl
theorem step_update_run {P : Program} {ops : Array Oper} {o : Oper} {a : Act} {w : World} {K : Act → World → Prop} {Q : Exit → Act → World → Prop} {E : Prop} (hgd : o.guard = none) (m x v : Operand) (t : TypeId)
    (hop : o.op = Op.mapUpdate t m x v) {M X V : Value} (hm : a.eval m = M) (hx : a.eval x = X) (hv : a.eval v = V) {w' : World}
    (hr : (Instr.mapUpdate t M X V).run P w = .ok () w') (h : K (a.put o.dst undef) w') : if Region.wanted o (yielded ops a.tmps) = true then Oper.wp P o a w K Q else E := by
  have hw : Region.wanted o (yielded ops a.tmps) = true := by simp [Region.wanted, hgd]
  rw [if_pos hw]
  unfold Oper.wp
  simp [execOp, hop, hm, hx, hv, hr, Result.andThen]
  exact h
theorem step_delete_run {P : Program} {ops : Array Oper} {o : Oper} {a : Act} {w : World} {K : Act → World → Prop} {Q : Exit → Act → World → Prop} {E : Prop} (hgd : o.guard = none) (m x : Operand) (t k : TypeId)
    (hop : o.op = Op.call { callee := Callee.builtin Builtin.delete, args := #[m, x], argTypes := #[t, k] }) {M X : Value} (hm : a.eval m = M) (hx : a.eval x = X) {w' : World}
    (hr : (Builtin.delete_ #[t, k] o.type #[M, X]).run P w = .ok (.tuple #[]) w') (h : K (a.put o.dst (.tuple #[])) w') : if Region.wanted o (yielded ops a.tmps) = true then Oper.wp P o a w K Q else E := by
  have hw : Region.wanted o (yielded ops a.tmps) = true := by simp [Region.wanted, hgd]
  rw [if_pos hw]
  unfold Oper.wp
  simp [execOp, hop, resolve, invoke, builtin, hm, hx, hr, Result.andThen]
  exact h
end MapI
end Go.Proofs.Ytepkonhgkabkcaa
