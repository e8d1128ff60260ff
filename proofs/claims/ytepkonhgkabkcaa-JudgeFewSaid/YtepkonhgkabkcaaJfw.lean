/- JudgeFew: the law's walk. No condition. -/
import Derived.Test.YtepkonhgkabkcaaJfp
namespace Go.Proofs.Ytepkonhgkabkcaa
open Go.RowKit Go.Maps MapI
set_option linter.unusedVariables false
set_option linter.unusedSimpArgs false

def Counts (u : List (Int × Int)) (k : Int) (l : List En) : Prop := ∀ n, (get n u).getD 0 = cnt k n l
theorem Counts.put {u : List (Int × Int)} {k : Int} {l : List En} {x : En} (h : Counts u k l) (hk : x.2.kind = k) : Counts (MapI.put x.2.txn ((cnt k x.2.txn l : Int) + 1) u) k (l ++ [x]) := fun n => by
  rw [cnt_snoc]
  by_cases e : n = x.2.txn
  · subst e; rw [get_put_same, if_pos ⟨hk, rfl⟩]; simp
  · rw [get_put_other e, h n, if_neg (fun hh => e hh.2.symm)]; simp
theorem Counts.keep {u : List (Int × Int)} {k : Int} {l : List En} {x : En} (h : Counts u k l) (hk : x.2.kind ≠ k) : Counts u k (l ++ [x]) := fun n => by
  rw [cnt_snoc, h n, if_neg (fun hh => hk hh.1)]; simp
theorem Counts.val {u : List (Int × Int)} {k : Int} {l : List En} (h : Counts u k l) (n : Int) : ((get n u).map encN).getD (.int .i64 0) = .int .i64 (cnt k n l) := by
  have := h n
  cases hg : get n u with
  | none => rw [hg] at this; simp at this; simp [encN, ← this]
  | some v => rw [hg] at this; simp at this; simp [encN, this]
set_option maxHeartbeats 2000000 in
set_option maxRecDepth 100000 in
theorem judgeFew_calls {w : World} {A : Option Addr} {b o c : Nat} {es : List En} (hL : Lst w A b o es) (hin : ∀ x ∈ es, EnIn x) (hlen : es.length ≤ maxLen) :
    Calls Try.prog 3 #[.slice A es.length c] w fun e w' => e = .returned (.bool true) ∧ Below w.heap.size w w' := by
  go_enter Try.func3, Try.ntmps3
  go_wp2_with (first | (go_at_call 13; refine (awakeJ_calls _).mono ?_; rintro e w1 ⟨rfl, b1⟩))
  go_at_call 14
  refine (few_calls (hL.below b1) hin hlen).mono ?_
  rintro e w2 ⟨y, rfl, hy, b2⟩
  have hB2 := b1.trans (b2.mono b1.size)
  cases y
  · go_wp2_with (first | (go_at_call 13; refine (awakeJ_calls _).mono ?_; rintro e w3 ⟨rfl, b3⟩))
    go_ret
    exact ⟨rfl, hB2.trans (b3.mono hB2.size)⟩
  · obtain ⟨hok, h200⟩ := hy rfl
    have hL2 := (hL.below b1).below b2
    go_wp2_with fail
    go_at_call 15
    refine (faults_calls hL2 hok (by omega)).mono ?_
    rintro e w3 ⟨v3, rfl, hv3, b3⟩
    have hB3 := hB2.trans (b3.mono hB2.size)
    have hfl := fltJ_length st0 es
    obtain ⟨A3, cap3, rfl, -, -⟩ := (Cut.form (.inl hv3))
    by_cases hz : (fltJ st0 es).length = 0
    · have hnil : fltJ st0 es = [] := List.eq_nil_of_length_eq_zero hz
      have hL3 := hL2.below b3
      have HN := Lib.hid hnil
      rw [hz]
      have hmm := @run_makeMap Try.prog
      clear hz hnil hv3 hfl hy
      go_wp2_with fail
      go_loopg [25] es.length (fun k iv wr => ∃ (i : Nat) (u v : List (Int × Int)), i + k = es.length ∧ iv = .int .i64 i ∧ MapIs Try.prog 3 encN wr w3.heap.size u ∧ MapIs Try.prog 3 encN wr (w3.heap.size + 1) v ∧ Counts u 1 (es.take i) ∧ Counts v 2 (es.take i) ∧ u.length ≤ i ∧ v.length ≤ i ∧ Below w3.heap.size w3 wr ∧ w3.heap.size + 2 ≤ wr.heap.size)
      case atStart =>
        have h9 := MapIs.made (w3.alloc (.map #[] 0)) Try.prog 3 encN
        rw [World.size_alloc] at h9
        exact ⟨0, [], [], by omega, rfl, (MapIs.made w3 _ 3 encN).kept (World.grownBy_alloc _ _ none) (by simp), h9, fun _ => rfl, fun _ => rfl, Nat.le_refl _, Nat.le_refl _, ((Below.refl _ _).alloc (Nat.le_refl _) _).alloc (by simp) _, by simp⟩
      case round =>
        obtain ⟨wo, rfl⟩ : ∃ wo : World, wo = wr := ⟨_, rfl⟩
        obtain ⟨ko, rfl⟩ : ∃ ko : Nat, ko = gk := ⟨_, rfl⟩
        obtain ⟨i, u, v, hik, rfl, hmu, hmv, hcu, hcv, hul, hvl, hbo, hsz⟩ := hrel
        clear hmm
        by_cases hlt : i < es.length
        · have hA := hL3.addr (Lst.ne hlt)
          subst hA
          have hb := hL3.lt (Lst.ne hlt)
          obtain ⟨x, hx⟩ : ∃ x, es[i]? = some x := ⟨_, List.getElem?_eq_getElem hlt⟩
          have hxo := hok x (List.mem_of_getElem? hx)
          obtain ⟨d0, d1, d2, d3, d4, d5, d6, d7, d8, d9, d10, d11⟩ := ((hL3.at_ i x hx).of_block (hbo.block _ hb)).cells
          obtain ⟨A1, n1, c1, e1⟩ := hxo.rec_.tx1
          obtain ⟨A2, n2, c2, e2⟩ := hxo.rec_.pg1
          rw [e1] at d10
          rw [e2] at d11
          have htk : es.take (i + 1) = es.take i ++ [x] := by rw [List.take_add_one, hx]; rfl
          have hinv := few_law HN.out (i + 1) x.2.txn
          rw [htk, cnt_snoc, cnt_snoc] at hinv
          have hcl1 : cnt 1 x.2.txn (es.take i) ≤ 200 := Nat.le_trans (cnt_le _ _ _) (by simp; omega)
          have hcl2 : cnt 2 x.2.txn (es.take i) ≤ 200 := Nat.le_trans (cnt_le _ _ _) (by simp; omega)
          have hwf := hxo.rec_.wf
          have b2' : (0 : Int) ≤ (i : Int) := by omega
          have b3' : (i : Int) < (es.length : Int) := by omega
          have hmu1 := hmu.kept (World.grownBy_alloc wo (.cells #[.int .i64 x.1, .int .i64 x.2.kind, .int .i64 x.2.txn, .int .i64 x.2.page, .int .i64 x.2.off, .int .i64 x.2.prev, .int .i64 x.2.next, .int .i64 x.2.begin_, .string x.2.before, .string x.2.after, .slice A1 n1 c1, .slice A2 n2 c2] 32) none) (by simp)
          have hmv1 := hmv.kept (World.grownBy_alloc wo (.cells #[.int .i64 x.1, .int .i64 x.2.kind, .int .i64 x.2.txn, .int .i64 x.2.page, .int .i64 x.2.off, .int .i64 x.2.prev, .int .i64 x.2.next, .int .i64 x.2.begin_, .string x.2.before, .string x.2.after, .slice A1 n1 c1, .slice A2 n2 c2] 32) none) (by simp)
          have HU := Lib.hid (hcu.val x.2.txn)
          have HV := Lib.hid (hcv.val x.2.txn)
          have HT := Lib.hid htk
          clear hx e1 e2 htk
          by_cases k1 : x.2.kind = 1
          · have t1 : (x.2.kind == 1) = true := by simp [k1]
            have K1 := Lib.hid k1
            clear k1
            go_wp2_with (first
              | (at_lookup; refine MapI.look _ rfl _ _ 26 3 rfl Try.underlying3 uBeg (zeroN _) w3.heap.size u rfl hmu1 x.2.txn rfl hwf ?_; rw [HU.out])
              | (at_mapUpdate; refine MapI.store _ rfl _ _ _ 26 3 rfl Try.underlying3 uBeg w3.heap.size u rfl hmu1 (by unfold maxLen; omega) x.2.txn rfl hwf ((cnt 1 x.2.txn (es.take i) : Int) + 1) rfl ?_; intro w5 hm5 ht5))
            go_roundg (ko - 1)
            case measure => omega
            case rel =>
              have hg5 := ht5.grown
              have hv5 : MapIs Try.prog 3 encN w5 (w3.heap.size + 1) v := hmv1.kept hg5 (by simp)
              refine ⟨i + 1, _, v, by omega, by go_num, hm5, hv5, ?_, ?_, Nat.le_trans length_put_le (by omega), by omega, ?_, ?_⟩
              · rw [HT.out]; exact hcu.put K1.out
              · rw [HT.out]; exact hcv.keep (by rw [K1.out]; decide)
              · exact (hbo.alloc (by omega) _).grown hg5 (by simp; omega) (fun k hk => by cases hk; exact Nat.le_refl _)
              · have := hg5.size; simp at this; omega
          · have t1 : (x.2.kind == 1) = false := by simpa using k1
            by_cases k2 : x.2.kind = 2
            · have t2 : (x.2.kind == 2) = true := by simp [k2]
              have hcc : cnt 2 x.2.txn (es.take i) + 1 ≤ cnt 1 x.2.txn (es.take i) := by
                rw [if_pos ⟨k2, rfl⟩, if_neg (fun hh => k1 hh.1)] at hinv
                omega
              have hcb : decide ((cnt 1 x.2.txn (es.take i) : Int) < (cnt 2 x.2.txn (es.take i) : Int) + 1) = false := decide_eq_false (by omega)
              have hcc' : (cnt 2 x.2.txn (es.take i) : Int) + 1 ≤ (cnt 1 x.2.txn (es.take i) : Int) := by omega
              have K1 := Lib.hid k1
              have K2 := Lib.hid k2
              clear k1 k2 hinv
              go_wp2_with (first
                | (at_lookup; refine MapI.look _ rfl _ _ 26 3 rfl Try.underlying3 uBeg (zeroN _) (w3.heap.size + 1) v rfl hmv1 x.2.txn rfl hwf ?_; rw [HV.out])
                | (at_mapUpdate; refine MapI.store _ rfl _ _ _ 26 3 rfl Try.underlying3 uBeg (w3.heap.size + 1) v rfl hmv1 (by unfold maxLen; omega) x.2.txn rfl hwf ((cnt 2 x.2.txn (es.take i) : Int) + 1) rfl ?_; intro w5 hm5 ht5; have hg5 := ht5.grown; have hu5 : MapIs Try.prog 3 encN w5 w3.heap.size u := hmu1.kept hg5 (by simp); have hx5 : w5.heap[wo.heap.size]? = some (.cells #[.int .i64 x.1, .int .i64 x.2.kind, .int .i64 x.2.txn, .int .i64 x.2.page, .int .i64 x.2.off, .int .i64 x.2.prev, .int .i64 x.2.next, .int .i64 x.2.begin_, .string x.2.before, .string x.2.after, .slice A1 n1 c1, .slice A2 n2 c2] 32 (0, 0)) := (hg5.block wo.heap.size (by simp) (by simp; omega)).trans (heap_alloc_new _ _); have hx52 := (cell_of_block hx5 2))
                | (at_lookup; refine MapI.look _ rfl _ _ 26 3 rfl Try.underlying3 uBeg (zeroN _) (w3.heap.size + 1) _ rfl hm5 x.2.txn rfl hwf ?_; rw [get_put_same]; simp only [Option.map_some, Option.getD_some, encN])
                | (at_lookup; refine MapI.look _ rfl _ _ 26 3 rfl Try.underlying3 uBeg (zeroN _) w3.heap.size u rfl hu5 x.2.txn rfl hwf ?_; rw [HU.out]))
              go_roundg (ko - 1)
              case measure => omega
              case rel =>
                refine ⟨i + 1, u, _, by omega, by go_num, hu5, hm5, ?_, ?_, by omega, Nat.le_trans length_put_le (by omega), ?_, ?_⟩
                · rw [HT.out]; exact hcu.keep K1.out
                · rw [HT.out]; exact hcv.put K2.out
                · exact (hbo.alloc (by omega) _).grown hg5 (by simp; omega) (fun k hk => by cases hk; omega)
                · have := hg5.size; simp at this; omega
            · have t2 : (x.2.kind == 2) = false := by simpa using k2
              have K1 := Lib.hid k1
              have K2 := Lib.hid k2
              clear k1 k2 hinv
              go_wp2_with fail
              go_roundg (ko - 1)
              case measure => omega
              case rel =>
                refine ⟨i + 1, u, v, by omega, by go_num, hmu1, hmv1, ?_, ?_, by omega, by omega, hbo.alloc (by omega) _, by simp; omega⟩
                · rw [HT.out]; exact hcu.keep K1.out
                · rw [HT.out]; exact hcv.keep K2.out
        · go_wp2_with fail
          go_ret
          exact ⟨rfl, hB3.trans (hbo.mono hB3.size)⟩
    · have hpos : decide ((0 : Int) < ((fltJ st0 es).length : Int)) = true := decide_eq_true (by omega)
      have hposn : 0 < (fltJ st0 es).length := by omega
      clear hy hz hv3
      go_wp2_with (first | (go_at_call 13; refine (awakeJ_calls _).mono ?_; rintro e w4 ⟨rfl, b4⟩))
      go_ret
      exact ⟨rfl, hB3.trans (b4.mono hB3.size)⟩
end Go.Proofs.Ytepkonhgkabkcaa
