/- Package judge: stands. No condition. -/
import Derived.Test.YtepkonhgkabkcaaJset
namespace Go.Proofs.Ytepkonhgkabkcaa
open Go.RowKit Go.Maps MapI
set_option linter.unusedVariables false
set_option linter.unusedSimpArgs false

set_option maxHeartbeats 2000000 in
theorem stands_calls {w : World} {jb rb ro : Nat} {cs : Array Value} {ps : List Pg} {r : Rc} (hn : ps.length = 8) (hb : w.heap[jb]? = some (.cells cs tJ (0, 0))) (hp : PgsIn cs 2 ps) (hr : RcAt w rb ro r) (hs : r.before.size ≤ 300) :
    Calls Try.prog 123 #[.pointer (some ⟨jb, 0, none⟩), .pointer (some ⟨rb, ro, none⟩)] w fun e w' => e = .returned (.bool (standsJ ps r)) ∧ Below w.heap.size w w' := by
  obtain ⟨-, -, c2, c3, -, -, -, c7, -, -⟩ := hr.cells
  have hrl := World.block_lt_of_cell? w _ c2
  have hlt := lt_of_block hb
  by_cases h0 : 0 ≤ r.page
  · obtain ⟨k, hk⟩ := Int.eq_ofNat_of_zero_le h0
    have hk' : r.page.toNat = k := by omega
    cases hg : ps[k]? with
    | none =>
      have hE : standsJ ps r = false := by unfold standsJ; rw [if_pos h0, hk', hg]
      have hkn : 8 ≤ k := by rw [← hn]; exact List.getElem?_eq_none_iff.1 hg
      rw [hk] at c2
      have b1 : decide ((k : Int) < 0) = false := decide_eq_false (by omega)
      have b2 : decide (8 ≤ (k : Int)) = true := decide_eq_true (by omega)
      rw [hE]
      clear hE hg hn hp hk hk' h0
      go_enter Try.func123, Try.ntmps123
      go_wp2
      go_ret
      exact ⟨rfl, Below.refl _ _⟩
    | some p =>
      have hkn : k < 8 := by rw [← hn]; exact (List.getElem?_eq_some_iff.1 hg).1
      obtain ⟨p1, p2⟩ := hp _ _ hg
      have q1 : w.cell? ⟨jb, 2 + k * 2, none⟩ = some (.int .i64 p.place) := (cell_of_block hb _).trans p1
      have q2 : w.cell? ⟨jb, 2 + k * 2 + 1, none⟩ = some (.string p.data) := (cell_of_block hb _).trans p2
      have b1 : decide ((k : Int) < 0) = false := decide_eq_false (by omega)
      have b2 : decide (8 ≤ (k : Int)) = false := decide_eq_false (by omega)
      have b3 : (0 : Int) ≤ (k : Int) := by omega
      have b4 : (k : Int) < 8 := by omega
      have CP := Lib.hid (get_calls p r.off r.before.size)
      have hE : standsJ ps r = (getE p r.off r.before.size == 0 && (getS p r.off r.before.size).toList == r.before.toList) := by unfold standsJ; rw [if_pos h0, hk', hg]
      rw [hE]
      rw [hk] at c2
      clear hE hg hn hp p1 p2 hk hk' h0
      cases hG : (getE p r.off r.before.size == 0)
      · go_enter Try.func123, Try.ntmps123
        go_wp2_with fail
        go_region_held3 (fun w' => w'.cell? ⟨jb, 2 + k * 2, none⟩ = some (.int .i64 p.place) ∧ w'.cell? ⟨jb, 2 + k * 2 + 1, none⟩ = some (.string p.data) ∧ w'.cell? ⟨rb, ro + 2, none⟩ = some (.int .i64 k) ∧ w'.cell? ⟨rb, ro + 3, none⟩ = some (.int .i64 r.off) ∧ w'.cell? ⟨rb, ro + 7, none⟩ = some (.string r.before)) (first | (go_keep; done) | (refine ⟨?_, ?_, ?_, ?_, ?_⟩ <;> exact keepc (by assumption) (by assumption)))
            (first | (go_at_call 150; refine (CP.out _ (by omega) (by omega)).mono ?_; rintro e w1 ⟨rfl, b9⟩; have k1 := keepd b9 q1; have k2 := keepd b9 q2; have k3 := keepd b9 c2; have k4 := keepd b9 c3; have k5 := keepd b9 c7))
        all_goals
          simp only [Exit.then]
          refine (by assumption : ∀ (a : Act) (w_1 : World), _ → _) _ _ ?_
          go_wp2
          go_ret
          exact ⟨rfl, ⟨b9.os, b9.tape, b9.output, b9.size, b9.block⟩⟩
      · go_enter Try.func123, Try.ntmps123
        go_wp2_with fail
        go_region_held3 (fun w' => w'.cell? ⟨jb, 2 + k * 2, none⟩ = some (.int .i64 p.place) ∧ w'.cell? ⟨jb, 2 + k * 2 + 1, none⟩ = some (.string p.data) ∧ w'.cell? ⟨rb, ro + 2, none⟩ = some (.int .i64 k) ∧ w'.cell? ⟨rb, ro + 3, none⟩ = some (.int .i64 r.off) ∧ w'.cell? ⟨rb, ro + 7, none⟩ = some (.string r.before)) (first | (go_keep; done) | (refine ⟨?_, ?_, ?_, ?_, ?_⟩ <;> exact keepc (by assumption) (by assumption)))
            (first | (go_at_call 150; refine (CP.out _ (by omega) (by omega)).mono ?_; rintro e w1 ⟨rfl, b9⟩; have k1 := keepd b9 q1; have k2 := keepd b9 q2; have k3 := keepd b9 c2; have k4 := keepd b9 c3; have k5 := keepd b9 c7))
        all_goals
          simp only [Exit.then]
          refine (by assumption : ∀ (a : Act) (w_1 : World), _ → _) _ _ ?_
          go_wp2
          go_ret
          exact ⟨rfl, ⟨b9.os, b9.tape, b9.output, b9.size, b9.block⟩⟩
  · have hE : standsJ ps r = false := by unfold standsJ; rw [if_neg h0]
    have h1 : r.page < 0 := by omega
    rw [hE]
    clear hE hn hp h0
    go_enter Try.func123, Try.ntmps123
    go_wp2
    go_ret
    exact ⟨rfl, Below.refl _ _⟩
end Go.Proofs.Ytepkonhgkabkcaa
