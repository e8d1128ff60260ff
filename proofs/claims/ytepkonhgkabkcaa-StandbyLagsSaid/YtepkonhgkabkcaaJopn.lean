/- Package judge: Open. No condition. -/
import Derived.Test.YtepkonhgkabkcaaJfew
import Derived.Test.YtepkonhgkabkcaaJkeys
namespace Go.Proofs.Ytepkonhgkabkcaa
open Go.RowKit Go.Maps MapI
set_option linter.unusedVariables false
set_option linter.unusedSimpArgs false

def rowsJ (l : List (Int × JTx)) : List Value := l.flatMap fun p => [.int .i64 p.2.num, .int .i64 p.2.first, .int .i64 p.2.last]
theorem rowsJ_length (l : List (Int × JTx)) : (rowsJ l).length = l.length * 3 := by
  unfold rowsJ
  induction l with
  | nil => rfl
  | cons p r ih => rw [List.flatMap_cons, List.length_append, ih]; simp; omega
theorem infoRowJ : (Try.prog.info? 38).map (fun i => (i.zero, i.size, i.bytes)) = some (some (.agg #[.int .i64 0, .int .i64 0, .int .i64 0]), 3, 24) := by kernel_rfl
def WfK (s : JSt) : Prop := ∀ p ∈ s.opn, (Lit.int .i64 p.1).wf = true
theorem own_wf {s : JSt} {a : Int} {r : Rc} (h : WfK s) (hr : (Lit.int .i64 r.txn).wf = true) : WfK (ownJ s a r).1 := by
  have hp : ∀ t, ∀ p ∈ MapI.put r.txn t s.opn, (Lit.int .i64 p.1).wf = true := fun t p hp => by
    rcases mem_put.1 hp with rfl | ⟨hp, _⟩
    · exact hr
    · exact h p hp
  have hd : ∀ p ∈ MapI.del r.txn s.opn, (Lit.int .i64 p.1).wf = true := fun p hp => h p (mem_del.1 hp).1
  unfold ownJ
  split
  · exact hp _
  · split
    · exact hp _
    · split
      · exact hd
      · exact hd
theorem entry_wf {s : JSt} {a : Int} {r : Rc} (h : WfK s) (hr : (Lit.int .i64 r.txn).wf = true) : WfK (entryJ s a r).1 := by
  have hl : WfK (lastJ s a) := h
  unfold entryJ
  split
  · exact own_wf hl hr
  · split
    · exact h
    · split
      · exact h
      · exact h
theorem run_wf : ∀ (l : List En) {s : JSt}, WfK s → (∀ x ∈ l, EnOk x) → WfK (runJ s l)
  | [], _, h, _ => h
  | x :: r, _, h, ho => run_wf r (entry_wf h (ho x (by simp)).rec_.wf) (fun y hy => ho y (by simp [hy]))
def OpenPost (w : World) (es : List En) (e : Ending) (w' : World) : Prop :=
  ∃ v, e = .returned v ∧ w'.ownsRow w.heap.size 38 3 v (runJ st0 es).opn.length (rowsJ (runJ st0 es).opn) ∧ Below w.heap.size w w'
/-- A block of a type that is none of the judge's may turn. -/
theorem Jud.otherT {w w' : World} {B jb mb gb : Nat} {l : List (Int × JEnt)} {fv : Value} {s : JSt} (t : Nat) (h : Jud w B jb mb gb l fv s) (h1 : t ≠ tJ) (h2 : t ≠ tJx) (h3 : t ≠ tRc) (h4 : t ≠ 63) (h5 : t ≠ 56)
    (hk : ∀ k, k < w.heap.size → (¬ ∃ cs, w.heap[k]? = some (.cells cs t (0, 0))) → w'.heap[k]? = w.heap[k]?) : Jud w' B jb mb gb l fv s := by
  obtain ⟨cs, g1, _⟩ := h.blk.cs
  obtain ⟨es, c, hm⟩ := h.map.heap
  obtain ⟨es', c', hm'⟩ := h.beg.heap
  have hc : ∀ (k : Nat) (cs : Array Value) (t' : Nat), t' ≠ t → w.heap[k]? = some (.cells cs t' (0, 0)) → w'.heap[k]? = w.heap[k]? := fun k cs t' ht hkk => hk k (lt_of_block hkk) fun ⟨cs', h2⟩ => type_ne hkk h2 ht rfl
  exact ⟨h.hB, h.hmb, h.hgb, h.hmg, h.blk.of_block (hc _ _ _ (Ne.symm h1) g1), h.map.of_block (hk _ h.map.lt fun ⟨cs', h2⟩ => map_ne hm h2 rfl), h.beg.of_block (hk _ h.beg.lt fun ⟨cs', h2⟩ => map_ne hm' h2 rfl),
    h.ents.typed (fun k cs t' hT hkk => hc k cs t' (by rcases hT with rfl | rfl; exact Ne.symm h2; exact Ne.symm h3) hkk), h.opn, h.out.typed (fun k cs t' hT hkk => hc k cs t' (by rcases hT with rfl | rfl; exact Ne.symm h4; exact Ne.symm h5) hkk)⟩
set_option maxHeartbeats 2000000 in
set_option maxRecDepth 100000 in
theorem open_calls {w : World} {A : Option Addr} {b o c : Nat} {es : List En} (hL : Lst w A b o es) (hok : ∀ x ∈ es, EnOk x) (hlen : es.length ≤ 100000) :
    Calls Try.prog 17 #[.slice A es.length c] w (OpenPost w es) := by
  obtain ⟨i0, hi, hz0, hz1, hz2⟩ := info_parts infoRowJ
  go_enter Try.func17, Try.ntmps17
  go_wp2_with (first | (go_at_call 53; refine (begin_calls _).mono ?_; rintro e w1 ⟨rfl, hJ, b1⟩))
  go_loopg [10] es.length (fun k iv wr => ∃ i : Nat, i + k = es.length ∧ iv = .int .i64 i ∧ JAt wr w.heap.size (w.heap.size + 2) w.heap.size (w.heap.size + 1) fv0 (runJ st0 (es.take i)) ∧ Below w.heap.size w wr)
  case atStart => exact ⟨0, by omega, rfl, hJ, b1⟩
  case round =>
    obtain ⟨wo, rfl⟩ : ∃ wo : World, wo = wr := ⟨_, rfl⟩
    obtain ⟨ko, rfl⟩ : ∃ ko : Nat, ko = gk := ⟨_, rfl⟩
    obtain ⟨i, hin, rfl, hJo, hbo⟩ := hrel
    clear hJ b1
    by_cases hlt : i < es.length
    · have hA := hL.addr (Lst.ne hlt)
      subst hA
      have hb := hL.lt (Lst.ne hlt)
      have h := hL.at_
      obtain ⟨x, hx⟩ : ∃ x, es[i]? = some x := ⟨_, List.getElem?_eq_getElem hlt⟩
      have hxo := hok x (List.mem_of_getElem? hx)
      have hEa : EntAt wo b (o + i * 12) x.1 x.2 := (h i x hx).of_block (hbo.block _ hb)
      have hz := hbo.size
      have hsm : Small (runJ st0 (es.take i)) 100000 := (run_small (es.take i) small0).mono (by simp; omega)
      have htk : es.take (i + 1) = es.take i ++ [x] := by rw [List.take_add_one, hx]; rfl
      have HC := Lib.hid (entry_calls hJo hz hEa hb hxo.rec_ hxo.wf hsm)
      have e2 : runJ st0 (es.take (i + 1)) = (entryJ (runJ st0 (es.take i)) x.1 x.2).1 := by rw [htk, runJ_snoc]; rfl
      have b2 : (0 : Int) ≤ (i : Int) := by omega
      have b3 : (i : Int) < (es.length : Int) := by omega
      have HE2 := Lib.hid e2
      clear e2 hx htk hJo
      go_wp2_with (first | (go_at_call 54; refine HC.out.mono ?_; rintro e w2 ⟨rfl, hJ2, hf2⟩))
      go_roundg (ko - 1)
      case measure => omega
      case rel => exact ⟨i + 1, by omega, by go_num, by rw [HE2.out]; exact hJ2, hbo.trans hf2.toBelow⟩
    · have hi2 : i = es.length := by omega
      subst hi2
      rw [List.take_of_length_le (Nat.le_refl _)] at hJo
      obtain ⟨l, hJd⟩ := hJo
      have hsm : Small (runJ st0 es) 100000 := (run_small es small0).mono (by omega)
      have hll : l.length ≤ 100000 := by have := hsm.opn; rw [← hJd.opn, length_mapv] at this; exact this
      obtain ⟨cs, hjb, j0, j1, jp, j18, j19⟩ := hJd.blk.cs
      have q1 : wo.cell? ⟨w.heap.size + 2, 1, none⟩ = some (.map (some w.heap.size)) := (cell_of_block hjb _).trans j1
      have hz := hbo.size
      have hm := hJd.map
      cases hln : l with
      | nil =>
        have hopn : (runJ st0 es).opn = [] := by rw [← hJd.opn, hln]; rfl
        have HO := Lib.hid hopn
        have HN := Lib.hid hln
        clear hopn hln hJd hjb j0 j1 jp j18 j19
        go_wp2_with (first
          | (go_at_call 57; refine (keys_calls _ _).mono ?_; rintro e w3 ⟨rfl, rfl⟩)
          | (go_at_call 56; refine (sorted_none hm HN.out).mono ?_; rintro e w4 ⟨rfl, b4⟩))
        refine wp_loop_rounds 1 ?_
        rw [rounds_succ]
        go_wp2_with fail
        go_ret
        refine ⟨_, rfl, by rw [HO.out]; exact World.ownsRow_nil _ _ _ _, (hbo.alloc hz _).trans (b4.mono (by omega))⟩
      | cons p0 rest =>
        have hpos : 0 < l.length := by rw [hln]; simp
        have hwk := run_wf es (s := st0) (by intro p hp; simp [st0] at hp) hok
        have cS := sorted_some hm (by omega) hpos
        have HS := Lib.hid cS
        have HJ := Lib.hid hJd
        have HW := Lib.hid hwk
        have HO := Lib.hid hJd.opn
        clear cS hln hJd hwk hjb j0 j1 jp j18 j19 hpos
        go_wp2_with (first
          | (go_at_call 57; refine (keys_calls _ _).mono ?_; rintro e w3 ⟨rfl, rfl⟩)
          | (go_at_call 56; refine HS.out.mono ?_; rintro e w4 ⟨g, cap, rfl, hrow, b4⟩))
        have hB4 : Below w.heap.size w w4 := (hbo.alloc hz _).trans (b4.mono (by omega))
        have hJ4 : Jud w4 w.heap.size (w.heap.size + 2) w.heap.size (w.heap.size + 1) l fv0 (runJ st0 es) := HJ.out.below (((Below.refl _ wo).alloc (Nat.le_refl _) _).trans (b4.mono (by omega)))
        go_loopg [26, 2] l.length (fun k iv rv wr => ∃ i : Nat, i + k = l.length ∧ iv = .int .i64 i ∧ wr.ownsRow w.heap.size 38 3 rv i (rowsJ ((runJ st0 es).opn.take i)) ∧
          wr.ownsRow (wo.heap.size + 1) 3 1 (.slice (some ⟨g, 0, none⟩) l.length cap) l.length ((l.map Prod.fst).map (Value.int .i64)) ∧ Jud wr w.heap.size (w.heap.size + 2) w.heap.size (w.heap.size + 1) l fv0 (runJ st0 es) ∧ Below w.heap.size w wr)
        case atStart => exact ⟨0, by omega, rfl, by simpa [rowsJ] using World.ownsRow_nil _ _ _ _, hrow, hJ4, hB4⟩
        case round =>
          obtain ⟨wx, rfl⟩ : ∃ wx : World, wx = wr := ⟨_, rfl⟩
          obtain ⟨kx, rfl⟩ : ∃ kx : Nat, kx = gk := ⟨_, rfl⟩
          obtain ⟨i, hik, rfl, hrv, hks, hJx, hBx⟩ := hrel
          by_cases hlt2 : i < l.length
          · obtain ⟨⟨n, e⟩, hp⟩ : ∃ p, l[i]? = some p := ⟨_, List.getElem?_eq_getElem hlt2⟩
            have hmem : (n, e) ∈ l := List.mem_of_getElem? hp
            have hg := get_of_mem hJx.map.rises hmem
            have he := hJx.ents.ent _ hmem
            dsimp only at he
            have hmo : (n, e.tx) ∈ (runJ st0 es).opn := by rw [← HO.out]; exact List.mem_map.2 ⟨(n, e), hmem, rfl⟩
            have hwf : (Lit.int .i64 n).wf = true := HW.out _ hmo
            have ck : wx.cell? ⟨g, i, none⟩ = some (.int .i64 n) := by
              have := hks.cells (g := g) rfl i (.int .i64 n) (by simp [hp])
              rwa [show (⟨g, 0, none⟩ : Addr).add i = ⟨g, i, none⟩ from by unfold Addr.add; split <;> simp_all] at this
            have c0 : wx.cell? ⟨e.blk, 0, none⟩ = some (.int .i64 e.tx.num) := by rw [cell_of_block he.blk]; rfl
            have c1 : wx.cell? ⟨e.blk, 1, none⟩ = some (.int .i64 e.tx.first) := by rw [cell_of_block he.blk]; rfl
            have c2 : wx.cell? ⟨e.blk, 2, none⟩ = some (.int .i64 e.tx.last) := by rw [cell_of_block he.blk]; rfl
            obtain ⟨cs5, hjb5, k0, k1, kp, k18, k19⟩ := hJx.blk.cs
            have q5 : wx.cell? ⟨w.heap.size + 2, 1, none⟩ = some (.map (some w.heap.size)) := (cell_of_block hjb5 _).trans k1
            have hmx := hJx.map
            have hop : (runJ st0 es).opn[i]? = some (n, e.tx) := by rw [← HO.out]; simp [mapv, hp]
            have htk : rowsJ ((runJ st0 es).opn.take (i + 1)) = rowsJ ((runJ st0 es).opn.take i) ++ [.int .i64 e.tx.num, .int .i64 e.tx.first, .int .i64 e.tx.last] := by rw [List.take_add_one, hop]; simp [rowsJ]
            have hzx := hBx.size
            have b2 : (0 : Int) ≤ (i : Int) := by omega
            have b3 : (i : Int) < (l.length : Int) := by omega
            have HT := Lib.hid htk
            have HG := Lib.hid hg
            have HJX := Lib.hid hJx
            clear htk hop hg hp hmem hmo hjb5 k0 k1 kp k18 k19 hJx
            go_wp2_with (first
              | (at_lookup; refine MapI.look _ rfl _ _ 110 111 rfl Try.underlying3 uOpen (zeroJ _) w.heap.size l rfl hmx n rfl hwf ?_; rw [HG.out]; simp only [Option.map_some, Option.getD_some, encJ])
              | (at_builtin; refine wpList_append_lies _ rfl (.tmp 30) (.tmp 40) 27 rfl w.heap.size 38 i0 (.agg #[.int .i64 0, .int .i64 0, .int .i64 0]) 3 24 Try.underlying27 hi hz0 hz1 hz2 rfl (by decide) _ _ _ rfl (hrv.alloc _) ⟨wx.heap.size, 0, none⟩ 1 1 [.int .i64 e.tx.num, .int .i64 e.tx.first, .int .i64 e.tx.last] rfl rfl (World.news_of_block (heap_alloc_new wx _)) (by simp [Value.oneCell']) (by decide) (by unfold maxLen; omega) (by omega) (by simp; omega) _ rfl ?_; intro g2 cap2 w2 hown2 hg2 hat2 hlt3))
            go_roundg (kx - 1)
            case measure => omega
            case rel =>
              refine ⟨i + 1, by omega, by go_num, by rw [HT.out]; exact hown2, ?_, ?_, (hBx.alloc hzx _).grown hg2 (by simp; omega) (fun k hk => (hrv.lt k hk).1)⟩
              · have h1 := hks.alloc (.cells #[.int .i64 e.tx.num, .int .i64 e.tx.first, .int .i64 e.tx.last] 38)
                refine ownsRow_block h1 (fun j hj => hg2.block j (h1.lt j hj).2 fun e1 => ?_)
                obtain ⟨cur, hc⟩ := own_typeR h1 hj
                obtain ⟨cur2, hc2⟩ := own_typeR (hrv.alloc _) e1.symm
                exact type_ne hc hc2 (by decide) rfl
              · refine HJX.out.otherT 38 (by decide) (by decide) (by decide) (by decide) (by decide) fun k hk hne => ?_
                refine (hg2.block k (by simp; omega) fun e1 => ?_).trans (Below.heap_alloc _ _ _ hk)
                obtain ⟨cur, hc⟩ := own_typeR hrv e1.symm
                exact hne ⟨cur, hc⟩
          · have hil : i = l.length := by omega
            have hlo : (runJ st0 es).opn.length = l.length := by rw [← HO.out, length_mapv]
            have hmi : (runJ st0 es).opn.take i = (runJ st0 es).opn := List.take_of_length_le (by omega)
            have hio : i = (runJ st0 es).opn.length := by omega
            rw [hmi] at hrv
            have HRV := Lib.hid hrv
            have HIO := Lib.hid hio
            clear hil hmi hlo hio hrv
            go_wp2_with fail
            go_ret
            exact ⟨_, rfl, by have h9 := HRV.out; rw [HIO.out] at h9; exact h9, hBx⟩
end Go.Proofs.Ytepkonhgkabkcaa
