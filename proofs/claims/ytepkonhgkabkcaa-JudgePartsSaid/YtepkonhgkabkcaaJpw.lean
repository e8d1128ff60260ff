/- JudgeParts: the law's walk. Condition: the entries' own rows are there; the list's length is within its capacity. -/
import Derived.Test.YtepkonhgkabkcaaJawk
import Derived.Test.YtepkonhgkabkcaaJsm
namespace Go.Proofs.Ytepkonhgkabkcaa
open Go.RowKit Go.Maps MapI
set_option linter.unusedVariables false
set_option linter.unusedSimpArgs false

theorem cut_some (cut : Int) (n : Nat) (hn : n ≤ 200) : ∃ m : Nat, wrap64 ((IntKind.u64.wrap cut).tmod ((n : Int) + 1)) = (m : Int) ∧ m ≤ n := by
  have h0 : 0 ≤ IntKind.u64.wrap cut := by
    show (0 : Int) ≤ cut % 18446744073709551616
    omega
  rw [Int.tmod_eq_emod_of_nonneg h0]
  have h1 := Int.emod_nonneg (IntKind.u64.wrap cut) (show ((n : Int) + 1) ≠ 0 by omega)
  have h2 := Int.emod_lt_of_pos (IntKind.u64.wrap cut) (show (0 : Int) < (n : Int) + 1 by omega)
  obtain ⟨m, hm⟩ := Int.eq_ofNat_of_zero_le h1
  refine ⟨m, ?_, by omega⟩
  rw [hm]
  unfold wrap64
  omega
theorem Lst.take {w : World} {A : Option Addr} {b o : Nat} {es : List En} (h : Lst w A b o es) (m : Nat) : Lst w A b o (es.take m) := by
  refine ⟨fun hne => h.addr fun e => hne (by rw [e]; simp), fun hne => h.lt fun e => hne (by rw [e]; simp), fun i x hx => h.at_ i x ?_⟩
  rw [List.getElem?_take] at hx
  split at hx
  · exact hx
  · cases hx
theorem fltJ_mem : ∀ (l : List En) {s : JSt}, ∀ x ∈ fltJ s l, x ∈ l
  | [], _, x, h => by simp [fltJ] at h
  | y :: r, s, x, h => by
    unfold fltJ at h
    rcases List.mem_append.1 h with h | h
    · split at h
      · simp at h
      · simp at h; rw [h]; simp
    · exact List.mem_cons_of_mem _ (fltJ_mem r x h)
theorem flt_parts (es : List En) (m : Nat) : fltJ st0 es = fltJ st0 (es.take m) ++ fltJ (runJ st0 (es.take m)) (es.drop m) ∧ (fltJ st0 es).length - (fltJ st0 (es.take m)).length ≤ es.length - m ∧ (fltJ st0 (es.take m)).length ≤ (fltJ st0 es).length ∧ (fltJ st0 es).length ≤ es.length := by
  have h : fltJ st0 es = fltJ st0 (es.take m) ++ fltJ (runJ st0 (es.take m)) (es.drop m) := by rw [← fltJ_append, List.take_append_drop]
  have hl := congrArg List.length h
  rw [List.length_append] at hl
  have h2 := fltJ_length (runJ st0 (es.take m)) (es.drop m)
  rw [List.length_drop] at h2
  exact ⟨h, by omega, by omega, fltJ_length _ _⟩
theorem own_none {w : World} {B t s n : Nat} {A : Option Addr} {l c : Nat} {xs : List Value} (h : w.ownsRow B t s (.slice A l c) n xs) (hA : A = none) : l = 0 ∧ c = 0 := by
  subst hA
  rcases h.2 with ⟨h1, _⟩ | ⟨g, cap, cur, h1, _⟩
  · injection h1 with _ h1 h2; exact ⟨h1, h2⟩
  · injection h1 with h1 _ _; cases h1
theorem Lst.none {w : World} {A : Option Addr} {b o : Nat} : Lst w A b o [] := ⟨fun h => absurd rfl h, fun h => absurd rfl h, fun i x hx => by simp at hx⟩
theorem faults_take {w : World} {A : Option Addr} {b o c m : Nat} {es : List En} (hL : Lst w A b o es) (hok : ∀ x ∈ es, EnOk x) (hlen : es.length ≤ 100000) (hm : m ≤ es.length) :
    Calls Try.prog 15 #[.slice A m c] w (FltPost w (es.take m)) := by
  have h := faults_calls (c := c) (hL.take m) (fun x hx => hok x (List.mem_of_mem_take hx)) (by rw [List.length_take]; omega)
  rwa [List.length_take, Nat.min_eq_left hm] at h
set_option maxHeartbeats 2000000 in
set_option maxRecDepth 100000 in
theorem judgeParts_calls {w : World} {A : Option Addr} {b o c : Nat} {es : List En} (cut : Int) (hwc : (Lit.int .i64 cut).wf = true) (hL : Lst w A b o es) (hin : ∀ x ∈ es, EnIn x) (hn : ∀ x ∈ es, Nst w x) (hnil : A = none → es = [] ∧ c = 0) (hcap : es.length ≤ c) (hlen : c ≤ maxLen) :
    Calls Try.prog 4 #[.slice A es.length c, .int .i64 cut] w fun e w' => e = .returned (.bool true) ∧ Below w.heap.size w w' := by
  go_enter Try.func4, Try.ntmps4
  go_wp2_with (first | (go_at_call 13; refine (awakeJ_calls _).mono ?_; rintro e w1 ⟨rfl, b1⟩))
  go_at_call 14
  refine (few_calls (hL.below b1) hin (by omega)).mono ?_
  rintro e w2 ⟨y, rfl, hy, b2⟩
  have hB2 := b1.trans (b2.mono b1.size)
  cases y
  · go_wp2_with (first | (go_at_call 13; refine (awakeJ_calls _).mono ?_; rintro e w3 ⟨rfl, b3⟩))
    go_ret
    exact ⟨rfl, hB2.trans (b3.mono hB2.size)⟩
  · obtain ⟨hok, h200⟩ := hy rfl
    have hL2 := (hL.below b1).below b2
    have h0 : (0 : Int) ≤ (es.length : Int) := by omega
    go_wp2_with fail
    obtain ⟨m, hm, hml⟩ := cut_some cut es.length (by omega)
    rw [hm]
    have hm0 : (0 : Int) ≤ (m : Int) := by omega
    have hmc : (m : Int) ≤ (c : Int) := by omega
    have hmc2 : m ≤ c := by omega
    clear hm
    clear hy
    have hpar := flt_parts es m
    have hmem := fltJ_mem es (s := st0)
    obtain ⟨gs, hgs⟩ : ∃ gs, gs = fltJ st0 es := ⟨_, rfl⟩
    obtain ⟨fs, hfs⟩ : ∃ fs, fs = fltJ st0 (es.take m) := ⟨_, rfl⟩
    rw [← hgs, ← hfs] at hpar
    rw [← hgs] at hmem
    have hHC1 := fun (W : World) (hW : Below w2.heap.size w2 W) => faults_calls (c := c) (hL2.below hW) hok (by omega)
    have hHC2 := fun (W : World) (hW : Below w2.heap.size w2 W) => faults_take (c := c) (hL2.below hW) hok (by omega) hml
    unfold FltPost at hHC1 hHC2
    rw [← hgs] at hHC1
    rw [← hfs] at hHC2
    clear hgs hfs
    have hlg : fs.length ≤ gs.length := by omega
    have hgl0 : gs.length ≤ es.length := hpar.2.2.2
    have hrest : gs.length - fs.length ≤ es.length - m := by omega
    have htk : gs.take fs.length = fs := by rw [hpar.1]; exact List.take_left' rfl
    have HTK := Lib.hid htk
    have hd0 : Below w2.heap.size w2 w2.drew := ⟨rfl, rfl, rfl, Nat.le_refl _, fun _ _ => rfl⟩
    have hgl : gs.length ≤ 200 := by omega
    clear hpar htk
    rcases A with _ | a
    · obtain ⟨rfl, rfl⟩ := hnil rfl
      obtain rfl : m = 0 := by simpa using hml
      simp only [List.length_nil] at hHC1 hHC2
      have hg0 : gs.length = 0 := Nat.le_zero.1 hgl0
      obtain rfl : gs = [] := List.eq_nil_of_length_eq_zero hg0
      obtain rfl : fs = [] := List.eq_nil_of_length_eq_zero (by simpa using hlg)
      have HC1 := Lib.hid hHC1
      have HC2 := Lib.hid hHC2
      clear hHC1 hHC2
      go_region_with (first | (go_at_call 15; (with_reducible refine (HC1.out _ hd0).mono ?_); rintro e w3 ⟨v3, rfl, hv3, b3⟩; have hb3 : Below w2.heap.size w2 w3 := ⟨b3.os, b3.tape, b3.output, b3.size, b3.block⟩) | (go_at_call 15; (with_reducible refine (HC2.out _ hb3).mono ?_); rintro e w4 ⟨v4, rfl, hv4, b4⟩))
      all_goals
        have hb4 : Below w3.heap.size w3 w4 := ⟨b4.os, b4.tape, b4.output, b4.size, b4.block⟩
        have hB4 : Below w.heap.size w w4 := (hB2.trans (hb3.mono hB2.size)).trans (hb4.mono (Nat.le_trans hB2.size hb3.size))
        obtain ⟨A3, cap3, rfl, hc3, hc3'⟩ := Cut.form (.inl hv3)
        obtain ⟨A4, cap4, rfl, -, -⟩ := Cut.form (.inl hv4)
        have HS := Lib.hid (fun A3 c3 => sameAll_calls (w := w4) (A1 := A4) (A2 := A3) (g1 := 0) (o1 := 0) (g2 := 0) (o2 := 0) (c1 := cap4) (c2 := c3) (es := []) Lst.none Lst.none (by simp) (by simp) (by simp))
        have hz3 : A3 = none → [].length = 0 ∧ cap3 = 0 := fun e => own_none hv3 e
        clear hv3 hv4 hn hok hmem HC1 HC2
        simp only [Exit.then]
        refine (by assumption : ∀ (a : Act) (w_1 : World), Code.wp _ _ _ _ _ → _) _ _ ?_
        rcases A3 with _ | a3
        · obtain ⟨z1, rfl⟩ := hz3 rfl
          go_wp2_with (first | (go_at_call 16; refine (HS.out _ _).mono ?_; rintro e w5 ⟨rfl, b5⟩))
          go_ret
          exact ⟨rfl, hB4.trans (b5.mono hB4.size)⟩
        · clear hz3
          go_wp2_with (first | (go_at_call 16; refine (HS.out _ _).mono ?_; rintro e w5 ⟨rfl, b5⟩))
          go_ret
          exact ⟨rfl, hB4.trans (b5.mono hB4.size)⟩
    ·
      have HC1 := Lib.hid hHC1
      have HC2 := Lib.hid hHC2
      clear hHC1 hHC2
      go_region_with (first | (go_at_call 15; (with_reducible refine (HC1.out _ hd0).mono ?_); rintro e w3 ⟨v3, rfl, hv3, b3⟩; have hb3 : Below w2.heap.size w2 w3 := ⟨b3.os, b3.tape, b3.output, b3.size, b3.block⟩) | (go_at_call 15; (with_reducible refine (HC2.out _ hb3).mono ?_); rintro e w4 ⟨v4, rfl, hv4, b4⟩))
      all_goals
        have hb4 : Below w3.heap.size w3 w4 := ⟨b4.os, b4.tape, b4.output, b4.size, b4.block⟩
        have hB4 : Below w.heap.size w w4 := (hB2.trans (hb3.mono hB2.size)).trans (hb4.mono (Nat.le_trans hB2.size hb3.size))
        have hv3' := ownsRow_block hv3 (fun k hk => hb4.block k (Cut.lt (.inl hv3) k hk).2)
        have hnn := fun (x : En) (hx : x ∈ fs) => ((hn x (hmem x (by rw [← HTK.out] at hx; exact List.mem_of_mem_take hx))).below hB4)
        have hkk := fun (x : En) (hx : x ∈ fs) => hok x (hmem x (by rw [← HTK.out] at hx; exact List.mem_of_mem_take hx))
        have hfl : fs.length ≤ 200 := Nat.le_trans hlg hgl
        obtain ⟨A3, cap3, rfl, hc3, hc3'⟩ := Cut.form (.inl hv3')
        obtain ⟨A4, cap4, rfl, -, -⟩ := Cut.form (.inl hv4)
        obtain ⟨g3, hL3⟩ := Lst.own hv3' rfl
        obtain ⟨g4, hL4⟩ := Lst.own hv4 rfl
        have hL3t := hL3.take fs.length
        rw [HTK.out] at hL3t
        have HS := Lib.hid (fun c3 => sameAll_calls (c1 := cap4) (c2 := c3) hL4 hL3t hkk hnn (by omega))
        have hz3 : A3 = none → gs.length = 0 ∧ cap3 = 0 := fun e => own_none hv3' e
        clear hv3 hv3' hv4 hL3 hL4 hL3t hnn hkk hn hok hmem HC1 HC2
        have d1 : (fs.length : Int) ≤ (gs.length : Int) := by omega
        have d2 : (0 : Int) ≤ (fs.length : Int) := by omega
        have d3 : (fs.length : Int) ≤ (cap3 : Int) := by omega
        have d4 : decide ((gs.length : Int) - (fs.length : Int) ≤ (es.length : Int) - (m : Int)) = true := decide_eq_true (by omega)
        have d5 : decide ((fs.length : Int) ≤ (gs.length : Int)) = true := decide_eq_true d1
        simp only [Exit.then]
        refine (by assumption : ∀ (a : Act) (w_1 : World), Code.wp _ _ _ _ _ → _) _ _ ?_
        rcases A3 with _ | a3
        · obtain ⟨z1, z2⟩ := hz3 rfl
          obtain rfl : gs = [] := List.eq_nil_of_length_eq_zero z1
          subst z2
          obtain rfl : fs = [] := List.eq_nil_of_length_eq_zero (by simpa using hlg)
          go_wp2_with (first | (go_at_call 16; refine (HS.out _).mono ?_; rintro e w5 ⟨rfl, b5⟩))
          go_ret
          exact ⟨rfl, hB4.trans (b5.mono hB4.size)⟩
        · clear hz3
          go_wp2_with (first | (go_at_call 16; refine (HS.out _).mono ?_; rintro e w5 ⟨rfl, b5⟩))
          go_ret
          exact ⟨rfl, hB4.trans (b5.mono hB4.size)⟩
end Go.Proofs.Ytepkonhgkabkcaa
