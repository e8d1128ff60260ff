/- Rows of pages: copy at any size of element; the library's Repeat and Clone of pages. No condition. -/
import Derived.Test.YtepkonhgkabkcaaChn5
import Derived.Test.YtepkonhgkabkcaaJrep
import Derived.Laws.CopyRow
namespace Go.Proofs.Ytepkonhgkabkcaa
open Go.RowKit Go.Maps MapI
set_option linter.unusedVariables false
set_option linter.unusedSimpArgs false

theorem run_copy_rowK {P : Program} (w : World) (dT sT ty elem : TypeId) (g o dLen dCap : Nat) (a : Addr) (sLen sCap K : Nat) (cur : Array Value) (t : TypeId) (cs : List Value)
    (hu : P.underlying dT = some (.slice elem)) (hs : (P.info? elem).map (·.size) = some K)
    (hg : w.heap[g]? = some (.cells cur t (0, 0))) (hn : cs.length = Nat.min sLen dLen * K)
    (hsrc : ∀ j v, cs[j]? = some v → w.cell? (a.add j) = some v) (hfit : o + cs.length ≤ cur.size) (h1 : ∀ v ∈ cs, v.oneCell' = true) :
    (Builtin.copy_ #[dT, sT] ty #[.slice (some ⟨g, o, none⟩) dLen dCap, .slice (some a) sLen sCap]).run P w =
      .ok (goInt (Nat.min sLen dLen)) (w.setRow g (cur.toList.take o ++ cs ++ cur.toList.drop (o + cs.length)).toArray) := by
  have hl := run_loadCells_list (P := P) w a cs hsrc
  have hst := run_storeCells_at P g o t cs 0 cur w hg (by simpa using hfit) h1
  cases hq : P.info? elem with
  | none => simp [hq] at hs
  | some i =>
    have hi : i.size = K := by simpa [hq] using hs
    rw [hn] at hl
    simp [Builtin.copy_, run_underlying hu, Builtin.lenOf, Builtin.firstCells, sizeOf, typeInfo, hq, hi, hl, hst]
theorem mul_one {n : Nat} (h1 : 1 ≤ n) (h8 : n ≤ 8) (w : World) : Calls Try.prog 117 #[.int .u64 1, .int .u64 (n : Int)] w fun e w' => e = .returned (.tuple #[.int .u64 0, .int .u64 (n : Int)]) ∧ w = w' := by
  obtain rfl | rfl | rfl | rfl | rfl | rfl | rfl | rfl : n = 1 ∨ n = 2 ∨ n = 3 ∨ n = 4 ∨ n = 5 ∨ n = 6 ∨ n = 7 ∨ n = 8 := by omega
  all_goals
    go_enter Try.func117, Try.ntmps117
    go_wp2
    go_ret2
    exact ⟨by rfl, rfl⟩
/-- A block is a row of pages. -/
def PgBlk (w : World) (g : Nat) (ps : List Pg) : Prop := w.heap[g]? = some (.cells (pgCells ps).toArray 56 (0, 0))
theorem pgCells_append (a b : List Pg) : pgCells (a ++ b) = pgCells a ++ pgCells b := by simp [pgCells]
theorem PgBlk.in_ {w : World} {g : Nat} {ps : List Pg} (h : PgBlk w g ps) : ∃ cs, w.heap[g]? = some (.cells cs 56 (0, 0)) ∧ PgsIn cs 0 ps :=
  ⟨_, h, fun i p hp => by have := pgCells_get hp; simpa using this⟩
theorem PgBlk.cell {w : World} {g : Nat} {ps : List Pg} (h : PgBlk w g ps) {i : Nat} {p : Pg} (hp : ps[i]? = some p) : w.cell? ⟨g, i * 2, none⟩ = some (.int .i64 p.place) ∧ w.cell? ⟨g, i * 2 + 1, none⟩ = some (.string p.data) := by
  have := pgCells_get hp
  exact ⟨(cell_of_block h _).trans (by simpa using this.1), (cell_of_block h _).trans (by simpa using this.2)⟩
def repP (n k : Nat) (p : Pg) : List Pg := List.replicate k p ++ List.replicate (n - k) pg0
theorem repP_length {n k : Nat} {p : Pg} (h : k ≤ n) : (repP n k p).length = n := by simp [repP]; omega
theorem repP_full (n : Nat) (p : Pg) : repP n n p = List.replicate n p := by simp [repP]
/-- A piece of pages is copied into the row. -/
theorem copy_rep {W : World} {g n k m : Nat} {p : Pg} (hW : PgBlk W g (repP n k p)) (hkm : k + m ≤ n) (a : Addr) (dLen dCap sLen sCap : Nat) (hmin : Nat.min sLen dLen = m)
    (hsrc : ∀ j v, (pgCells (List.replicate m p))[j]? = some v → W.cell? (a.add j) = some v) (ty : TypeId) :
    ∃ W', (Builtin.copy_ #[63, 63] ty #[.slice (some ⟨g, k * 2, none⟩) dLen dCap, .slice (some a) sLen sCap]).run Try.prog W = .ok (goInt m) W' ∧ PgBlk W' g (repP n (k + m) p) ∧ W.grownBy W' (some g) := by
  have hl : (pgCells (repP n k p)).length = n * 2 := by rw [pgCells_length, repP_length (by omega)]
  have hcl : (pgCells (List.replicate m p)).length = m * 2 := by rw [pgCells_length, List.length_replicate]
  have hrun := run_copy_rowK (P := Try.prog) W 63 63 ty 56 g (k * 2) dLen dCap a sLen sCap 2 _ 56 (pgCells (List.replicate m p)) Try.underlying63 (by kernel_rfl) hW (by rw [hcl, hmin]) hsrc (by rw [List.size_toArray, hl, hcl]; omega) (by
    intro v hv
    simp only [pgCells, List.mem_flatMap] at hv
    obtain ⟨q, _, hv⟩ := hv
    simp at hv
    rcases hv with rfl | rfl <;> rfl)
  rw [hmin] at hrun
  refine ⟨_, hrun, ?_, setRow_grown _ _ _⟩
  unfold PgBlk
  rw [setRow_at _ _ _ hW]
  refine congrArg (fun l : List Value => some (Obj.cells l.toArray 56 (0, 0))) ?_
  rw [hcl]
  have e1 : pgCells (repP n k p) = pgCells (List.replicate k p) ++ pgCells (List.replicate (n - k) pg0) := by unfold repP; rw [pgCells_append]
  have e2 : n - k = m + (n - (k + m)) := by omega
  have e3 : pgCells (List.replicate (n - k) pg0) = pgCells (List.replicate m pg0) ++ pgCells (List.replicate (n - (k + m)) pg0) := by
    conv => lhs; rw [e2]
    rw [← List.replicate_append_replicate, pgCells_append]
  have e4 : pgCells (repP n (k + m) p) = pgCells (List.replicate k p) ++ pgCells (List.replicate m p) ++ pgCells (List.replicate (n - (k + m)) pg0) := by
    unfold repP; rw [← List.replicate_append_replicate, pgCells_append, pgCells_append]
  have lk : (pgCells (List.replicate k p)).length = k * 2 := by rw [pgCells_length, List.length_replicate]
  have lm : (pgCells (List.replicate m pg0)).length = m * 2 := by rw [pgCells_length, List.length_replicate]
  rw [e1, e3, e4]
  simp only [List.toList_toArray]
  rw [List.take_left' lk, ← List.append_assoc, List.drop_left' (by rw [List.length_append, lk, lm])]
theorem rep_prefix {n k m : Nat} {p : Pg} (h : m ≤ k) (hk : k ≤ n) {j : Nat} {v : Value} (hj : (pgCells (List.replicate m p))[j]? = some v) : (pgCells (repP n k p))[j]? = some v := by
  have e : repP n k p = List.replicate m p ++ (List.replicate (k - m) p ++ List.replicate (n - k) pg0) := by
    unfold repP
    rw [← List.append_assoc, List.replicate_append_replicate, show m + (k - m) = k from by omega]
  rw [e, pgCells_append, List.getElem?_append_left (List.getElem?_eq_some_iff.1 hj).1]
  exact hj
theorem made_pages {n : Nat} (h8 : n ≤ 8) : (madeCells (Value.agg #[.int .i64 0, .string ⟨#[]⟩]).cells (n * 2)).toList = pgCells (repP n 0 pg0) := by
  obtain rfl | rfl | rfl | rfl | rfl | rfl | rfl | rfl | rfl : n = 0 ∨ n = 1 ∨ n = 2 ∨ n = 3 ∨ n = 4 ∨ n = 5 ∨ n = 6 ∨ n = 7 ∨ n = 8 := by omega
  all_goals kernel_rfl
theorem own_block {w : World} {B t s n : Nat} {g l c : Nat} {xs : List Value} (h : w.ownsRow B t s (.slice (some ⟨g, 0, none⟩) l c) n xs) : B ≤ g ∧ l = n ∧ ∃ cur, w.heap[g]? = some (.cells cur t (0, 0)) ∧ cur.size = c * s ∧ cur.toList.take (n * s) = xs := by
  rcases h.2 with ⟨h1, _⟩ | ⟨g', cap, cur, h1, h2, h3, _, _, h4, h5⟩
  · cases h1
  · injection h1 with h6 h7 h8
    injection h6 with h6
    injection h6 with h6
    subst h6 h7 h8
    exact ⟨h2, rfl, cur, h3, h4, h5⟩
theorem make_pages {n : Nat} (h1 : 1 ≤ n) (h8 : n ≤ 8) (w : World) : ∃ w', (Instr.makeSlice 63 (.int .i64 (n : Int)) (.int .i64 (n : Int))).run Try.prog w = .ok (.slice (some ⟨w.heap.size, 0, none⟩) n n) w' ∧ PgBlk w' w.heap.size (repP n 0 pg0) ∧ Below w.heap.size w w' := by
  obtain ⟨i0, hi, hz0, hz1, hz2⟩ := info_parts infoPg
  obtain ⟨w', hrun, hown, hg⟩ := run_make_full (w := w) (P := Try.prog) w.heap.size 63 56 i0 _ 2 Try.underlying63 hi hz0 hz1 .i64 .i64 n (by rw [hz2]; omega) (by unfold maxLen; omega) (Nat.le_refl _)
  refine ⟨w', hrun, ?_, ⟨hg.os, hg.tape, hg.output, hg.size, fun k hk => hg.block k hk (by simp)⟩⟩
  obtain ⟨_, _, cur, hcur, hsz, htk⟩ := own_block hown
  unfold PgBlk
  rw [hcur]
  have hlen : cur.toList.length = n * 2 := by simpa using hsz
  rw [← made_pages h8, ← htk, List.take_of_length_le (by omega)]
set_option maxHeartbeats 2000000 in
set_option maxRecDepth 100000 in
theorem repeat_calls {w : World} {b n : Nat} {p : Pg} (hn1 : 1 ≤ n) (hn8 : n ≤ 8) (h0 : w.cell? ⟨b, 0, none⟩ = some (.int .i64 p.place)) (h1 : w.cell? ⟨b, 1, none⟩ = some (.string p.data)) :
    Calls Try.prog 85 #[.slice (some ⟨b, 0, none⟩) 1 1, .int .i64 (n : Int)] w fun e w' => e = .returned (.slice (some ⟨w.heap.size, 0, none⟩) n n) ∧ PgBlk w' w.heap.size (List.replicate n p) ∧ Below w.heap.size w w' := by
  obtain ⟨wm, hmk, hpm, hbm⟩ := make_pages hn1 hn8 w
  have hsrc : ∀ j v, (pgCells (List.replicate 1 p))[j]? = some v → wm.cell? ((⟨b, 0, none⟩ : Addr).add j) = some v := fun j v hj => by
    match j, hj with
    | 0, hj => simp [pgCells] at hj; subst hj; simpa [Addr.add] using keepc hbm h0
    | 1, hj => simp [pgCells] at hj; subst hj; simpa [Addr.add] using keepc hbm h1
    | j + 2, hj => simp [pgCells] at hj
  have hpm' : PgBlk wm w.heap.size (repP n 0 p) := by have := hpm; unfold repP at this ⊢; simpa using this
  obtain ⟨wc, hcp, hpc, hgc⟩ := copy_rep hpm' (m := 1) (by omega) ⟨b, 0, none⟩ n n 1 1 (by unfold Nat.min; exact Nat.min_eq_left hn1) hsrc 3
  rw [Nat.zero_mul] at hcp
  have hBc : Below w.heap.size w wc := hbm.grown hgc hbm.size (fun k hk => by cases hk; exact Nat.le_refl _)
  have hn0 : (0 : Int) ≤ (n : Int) := by omega
  have hn9 : (n : Int) ≤ 8 := by omega
  have t1 : decide ((n : Int) < 0) = false := decide_eq_false (by omega)
  have t2 : decide (9223372036854775807 < (n : Int)) = false := decide_eq_false (by omega)
  have HPC := Lib.hid hpc
  have HM := Lib.hid (fun (W : World) => mul_one hn1 hn8 W)
  clear hpm hpm' hgc hsrc hbm hpc
  go_enter Try.func85, Try.ntmps85
  go_wp2_with (first | (go_at_call 117; refine (HM.out _).mono ?_; rintro e w3 ⟨rfl, rfl⟩))
  go_loopg [8] n (fun k jv wr => ∃ i : Nat, n - i ≤ k ∧ 1 ≤ i ∧ i ≤ n ∧ jv = .int .i64 i ∧ PgBlk wr w.heap.size (repP n i p) ∧ Below w.heap.size w wr)
  case atStart => exact ⟨1, by omega, by omega, by omega, rfl, by have := HPC.out; rwa [Nat.zero_add] at this, hBc⟩
  case round =>
    obtain ⟨wo, rfl⟩ : ∃ wo : World, wo = wr := ⟨_, rfl⟩
    obtain ⟨ko, rfl⟩ : ∃ ko : Nat, ko = gk := ⟨_, rfl⟩
    obtain ⟨i, hik, hi1, hin, rfl, hpo, hbo⟩ := hrel
    by_cases hlt : i < n
    · have hsrc : ∀ j v, (pgCells (List.replicate (Nat.min i (n - i)) p))[j]? = some v → wo.drew.cell? ((⟨w.heap.size, 0, none⟩ : Addr).add j) = some v := fun j v hj => by
        have hadd : (⟨w.heap.size, 0, none⟩ : Addr).add j = ⟨w.heap.size, j, none⟩ := by unfold Addr.add; split <;> simp_all
        rw [hadd]
        have h2 := rep_prefix (n := n) (k := i) (p := p) (Nat.min_le_left i (n - i)) hin hj
        exact (cell_of_block hpo j).trans (by simpa using h2)
      obtain ⟨wc2, hcp2, hpc2, hgc2⟩ := copy_rep (W := wo.drew) hpo (m := Nat.min i (n - i)) (by have := Nat.min_le_right i (n - i); unfold Nat.min at *; omega) ⟨w.heap.size, 0, none⟩ (n - i) (n - i) i n rfl hsrc 3
      have hm1 : 1 ≤ Nat.min i (n - i) := Nat.le_min.2 ⟨hi1, by omega⟩
      have hm2 : i + Nat.min i (n - i) ≤ n := by have := Nat.min_le_right i (n - i); unfold Nat.min at *; omega
      obtain ⟨m, hm⟩ : ∃ m, m = Nat.min i (n - i) := ⟨_, rfl⟩
      rw [← hm] at hcp2 hpc2 hm1 hm2
      clear hm hsrc hpo
      have b2 : (0 : Int) ≤ (i : Int) := by omega
      have b3 : (i : Int) < (n : Int) := by omega
      have b4 : (i : Int) ≤ (n : Int) := by omega
      have hne : ¬ n = i := by omega
      have HP2 := Lib.hid hpc2
      have HG2 := Lib.hid hgc2
      have HCP := Lib.hid hcp2
      clear hpc2 hgc2 hcp hcp2 hmk
      go_wp2_with fail
      have hcpq := HCP.out
      go_region
      clear hcpq
      go_wp2_with fail
      go_roundg (ko - 1)
      case measure => omega
      case rel =>
        have hd : Below w.heap.size wo wo.drew := ⟨rfl, rfl, rfl, Nat.le_refl _, fun _ _ => rfl⟩
        exact ⟨i + m, by omega, by omega, by omega, by go_num, HP2.out, (hbo.trans hd).grown HG2.out hbo.size (fun k hk => by cases hk; exact Nat.le_refl _)⟩
    · obtain rfl : i = n := by omega
      rw [repP_full] at hpo
      go_wp2_with fail
      go_ret
      exact ⟨rfl, hpo, hbo⟩
/-! ### Clone -/
set_option maxHeartbeats 2000000 in
set_option maxRecDepth 100000 in
theorem clone_calls {w : World} {g c : Nat} {ps : List Pg} (h1 : 1 ≤ ps.length) (h8 : ps.length ≤ 8) (hg : PgBlk w g ps) :
    Calls Try.prog 91 #[.slice (some ⟨g, 0, none⟩) ps.length c] w fun e w' => ∃ g2 cap, e = .returned (.slice (some ⟨g2, 0, none⟩) ps.length cap) ∧ w'.ownsRow w.heap.size 56 2 (.slice (some ⟨g2, 0, none⟩) ps.length cap) ps.length (pgCells ps) ∧ Below w.heap.size w w' := by
  obtain ⟨i0, hi, hz0, hz1, hz2⟩ := info_parts infoPg
  have hn := Lib.run_eql_slice_nil (P := Try.prog) w 63 56 (some ⟨g, 0, none⟩) ps.length c 0 0 Try.underlying63
  have hlen : (pgCells ps).length = ps.length * 2 := pgCells_length ps
  go_enter Try.func91, Try.ntmps91
  have hN := Lib.hid hn
  have hown : (w.alloc (.cells #[] 56)).ownsRow w.heap.size 56 2 (.slice (some ⟨w.heap.size, 0, none⟩) 0 0) 0 [] := ⟨rfl, .inr ⟨w.heap.size, 0, #[], rfl, Nat.le_refl _, heap_alloc_new _ _, Nat.le_refl _, Nat.zero_le _, rfl, rfl⟩⟩
  have hsrc : ∀ j v, (pgCells ps)[j]? = some v → (w.alloc (.cells #[] 56)).cell? ((⟨g, 0, none⟩ : Addr).add j) = some v := fun j v hj => by
    have hadd : (⟨g, 0, none⟩ : Addr).add j = ⟨g, j, none⟩ := by unfold Addr.add; split <;> simp_all
    rw [hadd]
    exact (cell_of_block ((Below.heap_alloc _ _ _ (lt_of_block hg)).trans hg) j).trans (by simpa using hj)
  have HS := Lib.hid hsrc
  have HL := Lib.hid hlen
  clear hlen hsrc
  go_wp2_with (at_builtin; refine wpList_append_lies _ rfl (.tmp 5) (.tmp 6) 63 rfl w.heap.size 56 i0 _ 2 24 Try.underlying63 hi hz0 hz1 hz2 rfl (by decide) _ _ _ rfl hown ⟨g, 0, none⟩ ps.length c (pgCells ps) rfl HL.out HS.out (by intro v hv; simp only [pgCells, List.mem_flatMap] at hv; obtain ⟨q, _, hv⟩ := hv; simp at hv; rcases hv with rfl | rfl <;> rfl) (by omega) (by unfold maxLen; omega) (by omega) (by simp) _ rfl ?_; intro g2 cap2 w3 hown3 hg3 hat3 hlt3)
  go_ret
  have hB : Below w.heap.size w w3 := ((Below.refl _ w).alloc (Nat.le_refl _) _).grown hg3 (by simp) (fun k hk => by cases hk; exact Nat.le_refl _)
  exact ⟨g2, cap2, rfl, by simpa using hown3, hB⟩
end Go.Proofs.Ytepkonhgkabkcaa
