/- The law StandbyLags, walked. No condition. -/
import Derived.Test.YtepkonhgkabkcaaSbl
import Derived.Test.YtepkonhgkabkcaaSbd
import Derived.Test.YtepkonhgkabkcaaJfp
namespace Go.Proofs.Ytepkonhgkabkcaa
open Go.RowKit Go.Maps MapI
set_option linter.unusedVariables false
set_option linter.unusedSimpArgs false

theorem pages_norm (n : Int) : ∃ m : Nat, 1 ≤ m ∧ m ≤ 8 ∧ wrap64 (1 + wrap64 ((IntKind.u64.wrap n).tmod 8)) = (m : Int) := by
  have h0 : 0 ≤ IntKind.u64.wrap n := by simp [IntKind.wrap, IntKind.bits, IntKind.signed]; omega
  have h1 : (IntKind.u64.wrap n).tmod 8 = (IntKind.u64.wrap n) % 8 := Int.tmod_eq_emod_of_nonneg h0
  obtain ⟨t, ht⟩ : ∃ t, t = (IntKind.u64.wrap n) % 8 := ⟨_, rfl⟩
  rw [h1, ← ht]
  have h2 : 0 ≤ t ∧ t < 8 := by omega
  refine ⟨(1 + t).toNat, by omega, by omega, ?_⟩
  have e1 : wrap64 t = t := by unfold wrap64; omega
  have e2 : wrap64 (1 + t) = 1 + t := by unfold wrap64; omega
  rw [e1, e2]; omega
theorem own_part {w' : World} {B sb pb mb cap : Nat} {lv lv0 : Value} {s0 : Sb} {k : Nat} (h0 : SbAt w' B sb pb mb cap lv0 s0) (hn : ∀ j, lv.ownBlock = some j → B ≤ j) (hk : k < B) : ¬ SbOwn sb pb mb lv k := by
  have := h0.hB
  rintro (h | h | h | h)
  · omega
  · omega
  · omega
  · have := hn k h; omega
theorem own_ge {w' : World} {B sb pb mb cap : Nat} {lv lv0 : Value} {s0 : Sb} (h0 : SbAt w' B sb pb mb cap lv0 s0) (hn : ∀ j, lv.ownBlock = some j → B ≤ j) : ∀ k, SbOwn sb pb mb lv k → B ≤ k := by
  intro k hk
  by_cases h : k < B
  · exact absurd hk (own_part h0 hn h)
  · omega
set_option maxHeartbeats 4000000 in
set_option maxRecDepth 100000 in
theorem standbyLags_calls (n : Int) (hn : (Lit.int .i64 n).wf = true) {w : World} {A1 A2 : Option Addr} {g1 o1 c1 g2 o2 c2 : Nat} {fs ts : List En} (hL1 : Lst w A1 g1 o1 fs) (hL2 : Lst w A2 g2 o2 ts) (hin1 : ∀ x ∈ fs, EnIn x) (hin2 : ∀ x ∈ ts, EnIn x) (hm1 : fs.length ≤ maxLen) (hm2 : ts.length ≤ maxLen) :
    Calls Try.prog 12 #[.int .i64 n, .slice A1 fs.length c1, .slice A2 ts.length c2] w fun e w' => e = .returned (.bool true) ∧ Below w.heap.size w w' := by
  go_enter Try.func12, Try.ntmps12
  go_wp2_with fail
  obtain ⟨m, m1, m8, hm⟩ := pages_norm n
  rw [hm]
  clear hm hn
  go_at_call 33
  refine (new_yes (n := m) m1 m8 w).mono ?_
  rintro e w1 ⟨sb, pb, mb, cap, rfl, h1, b1⟩
  have z1 := b1.size
  go_wp2_with fail
  go_at_call 34
  refine (awakeS_calls _).mono ?_
  rintro e w2 ⟨rfl, b2⟩
  have z2 := b2.size
  go_wp2_with fail
  go_at_call 14
  refine (few_calls ((hL1.below b1).below b2) hin1 hm1).mono ?_
  rintro e w3 ⟨y1, rfl, hy1, b3⟩
  have z3 := b3.size
  have bw3 : Below w.heap.size w w3 := (b1.trans (b2.mono z1)).trans (b3.mono (by omega))
  cases y1
  · go_wp2_with fail
    go_at_call 34
    refine (awakeS_calls _).mono ?_
    rintro e w9 ⟨rfl, b9⟩
    have bw9 : Below w.heap.size w w9 := bw3.trans (b9.mono bw3.size)
    go_wp2_with fail
    go_ret
    exact ⟨rfl, bw9⟩
  obtain ⟨hok1, hl1⟩ := hy1 rfl
  go_wp2_with fail
  go_at_call 14
  refine (few_calls (((hL2.below b1).below b2).below b3) hin2 hm2).mono ?_
  rintro e w4 ⟨y2, rfl, hy2, b4⟩
  have z4 := b4.size
  have bw4 : Below w.heap.size w w4 := bw3.trans (b4.mono (by omega))
  cases y2
  · go_wp2_with fail
    go_at_call 34
    refine (awakeS_calls _).mono ?_
    rintro e w9 ⟨rfl, b9⟩
    have bw9 : Below w.heap.size w w9 := bw4.trans (b9.mono bw4.size)
    go_wp2_with fail
    go_ret
    exact ⟨rfl, bw9⟩
  obtain ⟨hok2, hl2⟩ := hy2 rfl
  go_wp2_with fail
  go_at_call 48
  refine (rises_calls ((((hL2.below b1).below b2).below b3).below b4) (by omega)).mono ?_
  rintro e w5 ⟨y3, rfl, hy3, q5, hq5⟩
  have b5 : Below w4.heap.size w4 w5 := by rw [hq5]; exact below_drewN _ _ _
  have z5 := b5.size
  have bw5 : Below w.heap.size w w5 := bw4.trans (b5.mono (by omega))
  clear hq5
  cases y3
  · go_wp2_with fail
    go_at_call 34
    refine (awakeS_calls _).mono ?_
    rintro e w9 ⟨rfl, b9⟩
    have bw9 : Below w.heap.size w w9 := bw5.trans (b9.mono bw5.size)
    go_wp2_with fail
    go_ret
    exact ⟨rfl, bw9⟩
  have hR2 := hy3 rfl
  have h5 := (((h1.below b2).below b3).below b4).below b5
  have hn0 : ∀ j, (Value.slice none 0 0).ownBlock = some j → w.heap.size ≤ j := by intro j hj; simp [Value.ownBlock] at hj
  have HF : ∃ s1 n1 k1, (s1.list.length ≤ 1000 ∧ s1.last.length ≤ 1000) ∧ Calls Try.prog 36 #[.pointer (some ⟨sb, 0, none⟩), .slice A1 fs.length c1] w5 (FeedPost w5 w.heap.size sb pb mb cap (.slice none 0 0) s1 n1 k1) := by
    by_cases hR1 : Rise fs
    · have hlen := feedSb_len (sbNew m) fs
      have e1 : (sbNew m).list.length = 0 := rfl
      have e2 : (sbNew m).last.length = 0 := rfl
      exact ⟨_, _, _, ⟨by omega, by omega⟩, feed_ok (c := c1) h5 bw5.size (hL1.below bw5) hok1 (by omega) ⟨by omega, by omega⟩ hR1 (fun hne => own_part h1 hn0 (hL1.lt hne))⟩
    · exact ⟨_, _, _, ⟨by simp [sbNew], by simp [sbNew]⟩, feed_bad (c := c1) h5 (hL1.below bw5) (by omega) hR1⟩
  obtain ⟨s1, n1, k1, ⟨hs1, hs2⟩, HF⟩ := HF
  have HFh := Lib.hid HF
  clear HF h5
  go_wp2_with fail
  go_at_call 36
  refine HFh.out.mono ?_
  rintro e w6 ⟨rfl, lv6, h6, f6, n6⟩
  have z6 := f6.size
  have hn6 : ∀ j, lv6.ownBlock = some j → w.heap.size ≤ j := fun j hj => by
    rcases n6 j hj with h | h
    · exact hn0 j h
    · omega
  have bw6 : Below w.heap.size w w6 := bw5.trans (f6.below bw5.size (own_ge h1 hn0))
  have HLG := Lib.hid (lag_calls (c := c2) h6 (hL2.below bw6) hok2 (by omega))
  have hfl := feed_lag s1 ts hR2
  obtain ⟨q, hq⟩ : ∃ q, q = lagC s1 ts := ⟨_, rfl⟩
  rw [← hq] at HLG hfl
  clear HFh f6 n6
  go_wp2_with fail
  go_at_call 47
  refine HLG.out.mono ?_
  rintro e w7 ⟨rfl, b7⟩
  have h7 := h6.below b7
  have bw7 : Below w.heap.size w w7 := bw6.trans (b7.mono bw6.size)
  have HF2 := feed_ok (c := c2) h7 bw7.size (hL2.below bw7) hok2 (by omega) ⟨by omega, by omega⟩ hR2 (fun hne => own_part h1 hn6 (hL2.lt hne))
  rw [hfl] at HF2
  have HFh2 := Lib.hid HF2
  clear HF2 HLG hfl h7 hq
  go_wp2_with fail
  go_at_call 36
  refine HFh2.out.mono ?_
  rintro e w8 ⟨rfl, lv8, h8, f8, n8⟩
  have bw8 : Below w.heap.size w w8 := bw7.trans (f8.below bw7.size (own_ge h1 hn6))
  have HLG2 := Lib.hid (lag_calls (c := c2) h8 (hL2.below bw8) hok2 (by omega))
  rw [lag_done] at HLG2
  clear HFh2 f8 n8
  go_wp2_with fail
  go_at_call 47
  refine HLG2.out.mono ?_
  rintro e w9 ⟨rfl, b9⟩
  have bw9 : Below w.heap.size w w9 := bw8.trans (b9.mono bw8.size)
  clear HLG2
  go_wp2_with fail
  go_ret
  exact ⟨rfl, bw9⟩
end Go.Proofs.Ytepkonhgkabkcaa
