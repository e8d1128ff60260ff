/- Package judge: Commits; rows of numbers alike. No condition. -/
import Derived.Test.YtepkonhgkabkcaaJpgs
namespace Go.Proofs.Ytepkonhgkabkcaa
open Go.RowKit Go.Maps MapI
set_option linter.unusedVariables false
set_option linter.unusedSimpArgs false

def comJ (es : List En) : List Int := (es.filter fun x => x.2.kind == 3).map fun x => x.2.txn
theorem infoInt : (Try.prog.info? 3).map (fun i => (i.zero, i.size, i.bytes)) = some (some (.int .i64 0), 1, 8) := by kernel_rfl
def ComPost (w : World) (es : List En) (e : Ending) (w' : World) : Prop :=
  ∃ v, e = .returned v ∧ w'.ownsRow w.heap.size 3 1 v (comJ es).length ((comJ es).map (Value.int .i64)) ∧ Below w.heap.size w w'
theorem comJ_snoc {es : List En} {i : Nat} {x : En} (h : es[i]? = some x) : comJ (es.take (i + 1)) = comJ (es.take i) ++ (if x.2.kind == 3 then [x.2.txn] else []) := by
  rw [List.take_add_one, h]
  simp only [comJ, Option.toList_some, List.filter_append, List.map_append]
  cases hk : (x.2.kind == 3) <;> simp [hk]
theorem comJ_len (es : List En) : (comJ es).length ≤ es.length := by unfold comJ; rw [List.length_map]; exact List.length_filter_le _ _
set_option maxHeartbeats 2000000 in
set_option maxRecDepth 100000 in
theorem commits_calls {w : World} {A : Option Addr} {b o c : Nat} {es : List En} (hL : Lst w A b o es) (hok : ∀ x ∈ es, EnOk x) (hlen : es.length ≤ 100000) :
    Calls Try.prog 50 #[.slice A es.length c] w (ComPost w es) := by
  obtain ⟨i0, hi, hz0, hz1, hz2⟩ := info_parts infoInt
  go_enter Try.func50, Try.ntmps50
  go_wp2_with fail
  go_loopg [7, 2] es.length (fun k iv rv wr => ∃ i : Nat, i + k = es.length ∧ iv = .int .i64 i ∧ wr.ownsRow w.heap.size 3 1 rv (comJ (es.take i)).length ((comJ (es.take i)).map (Value.int .i64)) ∧ Below w.heap.size w wr)
  case atStart => exact ⟨0, by omega, rfl, World.ownsRow_nil _ _ _ _, Below.refl _ _⟩
  case round =>
    obtain ⟨wo, rfl⟩ : ∃ wo : World, wo = wr := ⟨_, rfl⟩
    obtain ⟨ko, rfl⟩ : ∃ ko : Nat, ko = gk := ⟨_, rfl⟩
    obtain ⟨i, hin, rfl, hrv, hbo⟩ := hrel
    by_cases hlt : i < es.length
    · have hA := hL.addr (Lst.ne hlt)
      subst hA
      have hb := hL.lt (Lst.ne hlt)
      obtain ⟨x, hx⟩ : ∃ x, es[i]? = some x := ⟨_, List.getElem?_eq_getElem hlt⟩
      have hxo := hok x (List.mem_of_getElem? hx)
      obtain ⟨d0, d1, d2, d3, d4, d5, d6, d7, d8, d9, d10, d11⟩ := ((hL.at_ i x hx).of_block (hbo.block _ hb)).cells
      obtain ⟨A1, n1, c1, e1⟩ := hxo.rec_.tx1
      obtain ⟨A2, n2, c2, e2⟩ := hxo.rec_.pg1
      rw [e1] at d10
      rw [e2] at d11
      have hz := hbo.size
      have hcl : (comJ (es.take i)).length ≤ 100000 := Nat.le_trans (comJ_len _) (by simp; omega)
      have b2 : (0 : Int) ≤ (i : Int) := by omega
      have b3 : (i : Int) < (es.length : Int) := by omega
      have HT := Lib.hid (comJ_snoc hx)
      clear hx e1 e2
      cases hk : (x.2.kind == 3)
      · have HK := Lib.hid hk
        go_wp2_with fail
        go_roundg (ko - 1)
        case measure => omega
        case rel =>
          refine ⟨i + 1, by omega, by go_num, ?_, hbo.alloc hz _⟩
          rw [HT.out, HK.out]
          simp only [Bool.false_eq_true, if_false, List.append_nil]
          exact hrv.alloc _
      · have HK := Lib.hid hk
        go_wp2_with (at_builtin; refine wpList_append_lies _ rfl (.tmp 15) (.tmp 19) 83 rfl w.heap.size 3 i0 (.int .i64 0) 1 8 Try.underlying83 hi hz0 hz1 hz2 rfl (by decide) _ _ _ rfl ((hrv.alloc _).alloc _) ⟨wo.heap.size + 1, 0, none⟩ 1 1 [.int .i64 x.2.txn] rfl rfl (World.news_of_block (by rw [← World.size_alloc wo (.cells #[.int .i64 x.1, .int .i64 x.2.kind, .int .i64 x.2.txn, .int .i64 x.2.page, .int .i64 x.2.off, .int .i64 x.2.prev, .int .i64 x.2.next, .int .i64 x.2.begin_, .string x.2.before, .string x.2.after, .slice A1 n1 c1, .slice A2 n2 c2] 32)]; exact heap_alloc_new _ _)) (by simp [Value.oneCell']) (by decide) (by unfold maxLen; omega) (by omega) (by simp; omega) _ rfl ?_; intro g2 cap2 w5 hown2 hg2 hat2 hlt3)
        go_roundg (ko - 1)
        case measure => omega
        case rel =>
          refine ⟨i + 1, by omega, by go_num, ?_, ((hbo.alloc hz _).alloc (by simp; omega) _).grown hg2 (by simp; omega) (fun k hk => (hrv.lt k hk).1)⟩
          rw [HT.out, HK.out]
          simpa using hown2
    · have hi2 : i = es.length := by omega
      subst hi2
      rw [List.take_of_length_le (Nat.le_refl _)] at hrv
      go_wp2_with fail
      go_ret
      exact ⟨_, rfl, hrv, hbo⟩
set_option maxHeartbeats 2000000 in
set_option maxRecDepth 100000 in
theorem same_one {w : World} {g1 g2 c1 c2 : Nat} {a : Int} (h1 : w.cell? ⟨g1, 0, none⟩ = some (.int .i64 a)) (h2 : w.cell? ⟨g2, 0, none⟩ = some (.int .i64 a)) :
    Calls Try.prog 40 #[.slice (some ⟨g1, 0, none⟩) 1 c1, .slice (some ⟨g2, 0, none⟩) 1 c2] w fun e w' => e = .returned (.bool true) ∧ Below w.heap.size w w' := by
  go_enter Try.func40, Try.ntmps40
  go_wp2_with fail
  refine wp_loop_rounds 2 ?_
  rw [rounds_succ]
  go_wp2_with fail
  go_quiet (fail)
  go_wp2_with fail
  rw [rounds_succ]
  go_wp2_with fail
  go_ret
  exact ⟨rfl, rfl, rfl, rfl, Nat.le_refl _, fun _ _ => rfl⟩
set_option maxHeartbeats 2000000 in
set_option maxRecDepth 100000 in
theorem sameRows_one {w : World} {g1 g2 c1 c2 : Nat} {a b c : Int} (h10 : w.cell? ⟨g1, 0, none⟩ = some (.int .i64 a)) (h11 : w.cell? ⟨g1, 1, none⟩ = some (.int .i64 b)) (h12 : w.cell? ⟨g1, 2, none⟩ = some (.int .i64 c))
    (h20 : w.cell? ⟨g2, 0, none⟩ = some (.int .i64 a)) (h21 : w.cell? ⟨g2, 1, none⟩ = some (.int .i64 b)) (h22 : w.cell? ⟨g2, 2, none⟩ = some (.int .i64 c)) :
    Calls Try.prog 51 #[.slice (some ⟨g1, 0, none⟩) 1 c1, .slice (some ⟨g2, 0, none⟩) 1 c2] w fun e w' => e = .returned (.bool true) ∧ Below w.heap.size w w' := by
  go_enter Try.func51, Try.ntmps51
  go_wp2_with fail
  refine wp_loop_rounds 2 ?_
  rw [rounds_succ]
  go_wp2_with fail
  go_quiet (fail)
  go_wp2_with fail
  rw [rounds_succ]
  go_wp2_with fail
  go_ret
  exact ⟨rfl, rfl, rfl, rfl, Nat.le_refl _, fun _ _ => rfl⟩
end Go.Proofs.Ytepkonhgkabkcaa
