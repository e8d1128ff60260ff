/- careenref11.Rises; the law StandbyLags, plainly. No condition. -/
import Derived.Test.YtepkonhgkabkcaaSb5
namespace Go.Proofs.Ytepkonhgkabkcaa
open Go.RowKit Go.Maps MapI
set_option linter.unusedVariables false
set_option linter.unusedSimpArgs false

theorem upto_take (s : Sb) (x : En) : (takeSb s x).upto = x.1 := by unfold Sb.upto takeSb; simp
theorem feedFrom_le (es : List En) : ∀ (t : Sb × Nat), t.1.upto ≤ (es.foldl feedStep t).1.upto ∧ ∀ x ∈ es, x.1 ≤ (es.foldl feedStep t).1.upto := by
  induction es with
  | nil => intro t; exact ⟨Int.le_refl _, fun x hx => by simp at hx⟩
  | cons y r ih =>
    intro t
    rw [List.foldl_cons]
    obtain ⟨h1, h2⟩ := ih (feedStep t y)
    have hs : t.1.upto ≤ (feedStep t y).1.upto ∧ y.1 ≤ (feedStep t y).1.upto := by
      unfold feedStep
      split
      · rename_i h; rw [upto_take]; exact ⟨by omega, Int.le_refl _⟩
      · rename_i h; exact ⟨Int.le_refl _, by omega⟩
    refine ⟨by omega, fun x hx => ?_⟩
    rcases List.mem_cons.1 hx with rfl | hx
    · omega
    · exact h2 x hx
theorem lag_done (s : Sb) (es : List En) : lagC (feedSb s es).1 es = 0 := by
  unfold lagC
  rw [List.length_eq_zero_iff, List.filter_eq_nil_iff]
  intro x hx
  have := (feedFrom_le es (s, 0)).2 x hx
  unfold feedSb
  simp only [decide_eq_true_eq]
  omega
theorem lagC_cons (s : Sb) (x : En) (r : List En) : lagC s (x :: r) = (if s.upto < x.1 then 1 else 0) + lagC s r := by
  unfold lagC
  by_cases h : s.upto < x.1
  · rw [List.filter_cons_of_pos (by simpa using h), if_pos h, List.length_cons]; omega
  · rw [List.filter_cons_of_neg (by simpa using h), if_neg h]; omega
theorem lagC_all (s : Sb) (r : List En) (h : ∀ y ∈ r, s.upto < y.1) : lagC s r = r.length := by
  unfold lagC
  rw [List.filter_eq_self.2 (fun y hy => by simpa using h y hy)]
theorem feed_lag_from (es : List En) (hR : Rise es) : ∀ (t : Sb × Nat), (es.foldl feedStep t).2 = t.2 + lagC t.1 es := by
  induction es with
  | nil => intro t; simp [lagC]
  | cons y r ih =>
    intro t
    unfold Rise at hR
    rw [List.pairwise_cons] at hR
    rw [List.foldl_cons, ih hR.2, lagC_cons]
    unfold feedStep
    by_cases h : t.1.upto < y.1
    · rw [if_pos h, if_pos h]
      rw [lagC_all (takeSb t.1 y) r (fun z hz => by rw [upto_take]; exact hR.1 z hz), lagC_all t.1 r (fun z hz => by have := hR.1 z hz; omega)]
      omega
    · rw [if_neg h, if_neg h]; omega
theorem feed_lag (s : Sb) (es : List En) (hR : Rise es) : (feedSb s es).2 = lagC s es := by
  unfold feedSb
  rw [feed_lag_from es hR]; simp
set_option maxHeartbeats 2000000 in
set_option maxRecDepth 100000 in
theorem rises_calls {w : World} {A : Option Addr} {b o c : Nat} {es : List En} (hL : Lst w A b o es) (hlen : es.length ≤ 1000000) :
    Calls Try.prog 48 #[.slice A es.length c] w fun e w' => ∃ y, e = .returned (.bool y) ∧ (y = true → Rise es) ∧ ∃ q, w' = w.drewN q := by
  go_enter Try.func48, Try.ntmps48
  go_wp2_with fail
  go_loopg [3, 2] es.length (fun k iv rv wr => ∃ i q : Nat, i + k = es.length + 1 ∧ (1 ≤ i ∧ (i = 1 ∨ i ≤ es.length)) ∧ iv = .int .i64 i ∧ rv = .bool false ∧ (i ≤ es.length → fallB es i = false) ∧ wr = w.drewN q)
  case atStart => exact ⟨1, 0, by omega, ⟨by omega, .inl rfl⟩, rfl, rfl, fun _ => fallB_one es, rfl⟩
  case round =>
    obtain ⟨wo, rfl⟩ : ∃ wo : World, wo = wr := ⟨_, rfl⟩
    obtain ⟨ko, rfl⟩ : ∃ ko : Nat, ko = gk := ⟨_, rfl⟩
    obtain ⟨i, q, hik, ⟨h1, h2⟩, rfl, rfl, hfl, hwo⟩ := hrel
    by_cases hlt : i < es.length
    · have hA := hL.addr (Lst.ne hlt)
      subst hA
      have hb := hL.lt (Lst.ne hlt)
      obtain ⟨y, hy⟩ : ∃ y, es[i]? = some y := ⟨_, List.getElem?_eq_getElem hlt⟩
      obtain ⟨x, hx⟩ : ∃ x, es[i - 1]? = some x := ⟨_, List.getElem?_eq_getElem (by omega)⟩
      have hbw : wo.heap[b]? = w.heap[b]? := by rw [hwo, World.heap_drewN]
      have d0 := ((hL.at_ i y hy).of_block hbw).1
      have q0 := ((hL.at_ _ x hx).of_block hbw).1
      have hst : fallB es (i + 1) = (fallB es i || (decide (0 < i) && decide (y.1 ≤ x.1))) := by
        show (fallB es i || _) = _
        rw [hx, hy]
      have s0 : 0 < i := by omega
      have s1 : IntKind.i64.wrap ((i : Int) - 1) = (i : Int) - 1 := IntWalk.i64_in _ (by omega)
      have s2 : (0 : Int) ≤ (i : Int) - 1 := by omega
      have s3 : (i : Int) - 1 < (es.length : Int) := by omega
      have s4 : ((i : Int) - 1).toNat = i - 1 := by omega
      have s5 : (1 : Int) ≤ (i : Int) := by omega
      have b2 : (0 : Int) ≤ (i : Int) := by omega
      have b3 : (i : Int) < (es.length : Int) := by omega
      have HST := Lib.hid hst
      have HFL := Lib.hid (hfl (by omega))
      have HW := Lib.hid hwo
      clear hx hy hst hfl hwo hbw
      by_cases hc : y.1 ≤ x.1
      · have t1 : decide (y.1 ≤ x.1) = true := decide_eq_true hc
        go_wp2_with fail
        go_quiet (fail)
        go_wp2_with fail
        go_ret
        exact ⟨false, rfl, (fun h => by cases h), _, by rw [HW.out]; exact World.drewN_drewN _ _ _⟩
      · have t1 : decide (y.1 ≤ x.1) = false := decide_eq_false hc
        go_wp2_with fail
        go_quiet (fail)
        go_wp2_with fail
        go_roundg (ko - 1)
        case measure => omega
        case rel => exact ⟨i + 1, _, by omega, ⟨by omega, .inr (by omega)⟩, by go_num, rfl, fun _ => by rw [HST.out, HFL.out, t1]; simp, by rw [HW.out]; exact World.drewN_drewN _ _ _⟩
    · have HW := Lib.hid hwo
      have hR : Rise es := by
        rcases (show es.length = 0 ∨ i = es.length ∨ es.length < i by omega) with h | h | h
        · rw [List.eq_nil_of_length_eq_zero h]; simp [Rise]
        · exact fallB_full.1 (by rw [← h]; exact hfl (by omega))
        · have : es.length = 0 := by omega
          rw [List.eq_nil_of_length_eq_zero this]; simp [Rise]
      clear hwo hfl
      go_wp2_with fail
      go_ret
      exact ⟨true, rfl, fun _ => hR, q, HW.out⟩
end Go.Proofs.Ytepkonhgkabkcaa
