/- careenlaw23: awake. No condition. -/
import Derived.Test.YtepkonhgkabkcaaSba
import Derived.Test.YtepkonhgkabkcaaSbs
import Derived.Test.YtepkonhgkabkcaaJawk
namespace Go.Proofs.Ytepkonhgkabkcaa
open Go.RowKit Go.Maps MapI Go.Sort Go.Shelf
set_option linter.unusedVariables false
set_option linter.unusedSimpArgs false

def pgS : ByteArray := splice zeros 0 ⟨#[97]⟩
def pgZ : ByteArray := splice pgS 0 ⟨#[0]⟩
def sbU : Sb := ⟨[⟨128, pgS⟩], [xU], [(1, 128)]⟩
theorem feed_1 : feedSb (sbNew 1) [xU] = (sbU, 1) := by kernel_rfl
theorem feed_2 : feedSb sbU [xU] = (sbU, 0) := by kernel_rfl
theorem ord_u : ordS sbU = [1] := by simp [ordS, ordK, sbU]
theorem prom_u : promC sbU = ([⟨128, pgZ⟩], 0) := by
  unfold promC
  rw [ord_u]
  kernel_rfl
theorem pgS_size : pgS.size = 220 := by kernel_rfl
theorem pgZ_size : pgZ.size = 220 := by kernel_rfl
theorem pgS_0 : (pgS.extract 0 1).toList = [97] := by kernel_rfl
theorem pgZ_0 : (pgZ.extract 0 1).toList = [0] := by kernel_rfl
theorem dist_u : Dist sbU := by
  intro a ha b hb _
  simp [sbU] at ha hb
  rw [ha, hb]
theorem upto_u : sbU.upto = 128 := by kernel_rfl
theorem lag_u (r : Rc) : lagC sbU [xU, (200, r)] = 1 := by kernel_rfl
theorem rise_u : Rise [xU] := by simp [Rise]
def x200 : En := (200, ⟨0, 0, 0, 0, 0, 0, 0, ⟨#[]⟩, ⟨#[]⟩, .slice none 0 0, .slice none 0 0⟩)
theorem ok200 : EnOk x200 := ⟨by decide, by decide, by decide, by decide, by decide, ⟨_, _, _, rfl⟩, ⟨_, _, _, rfl⟩⟩
theorem okU2 : ∀ x ∈ [xU, x200], EnOk x := by intro x hx; simp at hx; rcases hx with rfl | rfl; exact okU; exact ok200
theorem wpList_append_g {P : Program} {w : World} {ops : Array Oper} {rest : List Oper} {o : Oper} {a : Act} {Q : Exit → Act → World → Prop} (s x : Operand) (t : TypeId)
    (ho : o.op = .call { callee := .builtin .append, args := #[s, x], argTypes := #[t, t] }) (hgd : Region.wanted o (yielded ops a.tmps) = true)
    (base : Nat) (e : TypeId) (i : TypeInfo) (z : Value) (size bytes : Nat) (ht : P.underlying t = some (.slice e)) (hi : P.info? e = some i) (hz : i.zero = some z)
    (hsize : i.size = size) (hby : i.bytes = bytes) (hzs : z.cells.size = size) (hsz : 0 < size)
    (v : Value) (n : Nat) (xs : List Value) (hs : a.eval s = v) (hown : w.ownsRow base e size v n xs)
    (ad : Addr) (m c : Nat) (news : List Value) (hx : a.eval x = .slice (some ad) m c) (hl : news.length = m * size) (hnews : ∀ j u, news[j]? = some u → w.cell? (ad.add j) = some u) (h1 : ∀ u ∈ news, u.oneCell' = true)
    (hm : 0 < m) (h63 : n + m ≤ maxLen) (hbytes : (n + m) * bytes ≤ 140737488355328) (hbase : base ≤ w.heap.size) (H : Nat) (hH : w.heap.size = H)
    (h : ∀ g cap w', w'.ownsRow base e size (.slice (some ⟨g, 0, none⟩) (n + m) cap) (n + m) (xs ++ news) → w.grownBy w' v.ownBlock → (v.ownBlock = some g ∨ g = H) → g < w'.heap.size → wpList P ops Q rest (a.put o.dst (.slice (some ⟨g, 0, none⟩) (n + m) cap)) w') : wpList P ops Q (o :: rest) a w := by
  unfold wpList
  rw [if_pos hgd]
  exact .inl (wp_append_lies w s x t ho base e i z size bytes ht hi hz hsize hby hzs hsz v n xs hs hown ad m c news hx hl hnews h1 hm h63 hbytes hbase H hH h)
set_option maxHeartbeats 4000000 in
set_option maxRecDepth 100000 in
theorem awakeS_calls (w : World) : Calls Try.prog 34 #[] w fun e w' => e = .returned (.bool true) ∧ Below w.heap.size w w' := by
  go_enter Try.func34, Try.ntmps34
  go_wp2_with fail
  go_at_call 33
  refine (new_yes (n := 1) (by omega) (by omega) w).mono ?_
  rintro e w1 ⟨sb, pb, mb, cap, rfl, h1, b1⟩
  have z1 := b1.size
  obtain ⟨O, hO⟩ : ∃ O : Obj, O = .cells (enCells [xU]).toArray 32 (0, 0) := ⟨_, rfl⟩
  obtain ⟨W1, hW1⟩ : ∃ W : World, W = w1.alloc O := ⟨_, rfl⟩
  have hb1 : W1.heap[w1.heap.size]? = some O := by rw [hW1]; exact heap_alloc_new _ _
  have bW1 : Below w1.heap.size w1 W1 := by rw [hW1]; exact (Below.refl _ _).alloc (Nat.le_refl _) _
  have zW1 : w1.heap.size < W1.heap.size := by rw [hW1]; simp
  have hs1 := h1.below bW1
  have ho1 : ∀ k, SbOwn sb pb mb (.slice none 0 0) k → k < w1.heap.size := by
    rintro k (rfl | rfl | rfl | h)
    · exact lt_of_block h1.blk
    · obtain ⟨cs, hp, -⟩ := h1.pgs; exact lt_of_block hp
    · exact h1.map.lt
    · simp [Value.ownBlock] at h
  have HF := feed_ok (c := 1) hs1 (by omega) (Lst.lit (es := [xU]) (hb1.trans (by rw [hO])) rfl) ok1 (by decide) ⟨by decide, by decide⟩ rise_u (fun _ h => by have := ho1 _ h; omega)
  rw [feed_1] at HF
  rw [hW1, hO] at HF
  have HFh := Lib.hid HF
  clear HF
  go_wp2_with fail
  go_at_call 36
  refine HFh.out.mono ?_
  rintro e w2 ⟨rfl, lv2, h2, f2, n2⟩
  rw [← hO, ← hW1] at f2 n2
  have z2 := f2.size
  have hn1 : ¬ SbOwn sb pb mb (.slice none 0 0) w1.heap.size := fun h => by have := ho1 _ h; omega
  have hb2 : w2.heap[w1.heap.size]? = some O := (f2.block _ zW1 hn1).trans hb1
  have bw2 : Below w.heap.size w w2 := (b1.trans (bW1.mono z1)).trans (f2.below (by omega) (fun k hk => by
    have h0 := h1.hB
    rcases hk with rfl | rfl | rfl | h
    · exact h0.1
    · exact h0.2.1
    · exact h0.2.2
    · simp [Value.ownBlock] at h))
  have hn2 : ¬ SbOwn sb pb mb lv2 w1.heap.size := by
    rintro (h | h | h | h)
    · exact hn1 (.inl h)
    · exact hn1 (.inr (.inl h))
    · exact hn1 (.inr (.inr (.inl h)))
    · rcases n2 _ h with h' | h'
      · simp [Value.ownBlock] at h'
      · omega
  have HF2 := feed_ok (c := 1) h2 (by omega) (Lst.lit (es := [xU]) (hb2.trans (by rw [hO])) rfl) ok1 (by decide) ⟨by decide, by decide⟩ rise_u (fun _ => hn2)
  rw [feed_2] at HF2
  have HFh2 := Lib.hid HF2
  clear HF2 HFh h2
  go_wp2_with fail
  go_at_call 36
  refine HFh2.out.mono ?_
  rintro e w3 ⟨rfl, lv3, h3, f3, n3⟩
  have z3 := f3.size
  have hb3 : w3.heap[w1.heap.size]? = some O := (f3.block _ (by omega) hn2).trans hb2
  have bw3 : Below w.heap.size w w3 := bw2.trans (f3.below (by omega) (fun k hk => by
    have h0 := h1.hB
    rcases hk with rfl | rfl | rfl | h
    · exact h0.1
    · exact h0.2.1
    · exact h0.2.2
    · rcases n2 _ h with h' | h'
      · simp [Value.ownBlock] at h'
      · omega))
  have hn3 : ¬ SbOwn sb pb mb lv3 w1.heap.size := by
    rintro (h | h | h | h)
    · exact hn2 (.inl h)
    · exact hn2 (.inr (.inl h))
    · exact hn2 (.inr (.inr (.inl h)))
    · rcases n3 _ h with h' | h'
      · exact hn2 (.inr (.inr (.inr h')))
      · omega
  have HP := promote_of sortSays (fun e => by simp [sbU] at e) h3 dist_u
  unfold PromPost at HP
  rw [prom_u] at HP
  have HPh := Lib.hid HP
  have H3 := Lib.hid h3
  clear HP HFh2 h3 f2 f3 n2 n3 hn1 hn2 ho1 hs1
  go_wp2_with fail
  go_at_call 43
  refine HPh.out.mono ?_
  rintro e w4 ⟨v4, rfl, hv4, b4⟩
  obtain ⟨g4, cap4, rfl, -, -⟩ := Cut.formS (.inl hv4) (by decide)
  have r4 : w4.cell? ⟨g4, 0, none⟩ = some (.string pgZ) := Cut.cells (.inl hv4) (g := g4) rfl 0 _ rfl
  have z4 := b4.size
  have bw4 : Below w.heap.size w w4 := bw3.trans (b4.mono (by omega))
  have hb4 := (b4.block _ (lt_of_block hb3)).trans hb3
  have h4 := H3.out.below b4
  have HU := Lib.hid (upto_calls h4)
  rw [upto_u] at HU
  clear HPh hv4
  go_wp2_with fail
  go_at_call 38
  refine HU.out.mono ?_
  rintro e w5 ⟨rfl, q5, hq5⟩
  have b5 : Below w4.heap.size w4 w5 := by rw [hq5]; exact below_drewN _ _ _
  have z5 := b5.size
  have h5 := h4.below b5
  have r5 := (b5.cell (p := ⟨g4, 0, none⟩) (World.block_lt_of_cell? _ _ r4)).trans r4
  have HG := Lib.hid (pages_calls h5)
  clear hq5 HU
  go_wp2_with fail
  go_at_call 46
  refine HG.out.mono ?_
  rintro e w6 ⟨v6, rfl, hv6, b6⟩
  obtain ⟨g6, cap6, rfl, -, -⟩ := Cut.formS (.inl hv6) (by decide)
  have z6 := b6.size
  have h6 := h5.below b6
  have r6 := (b6.cell (p := ⟨g4, 0, none⟩) (World.block_lt_of_cell? _ _ r5)).trans r5
  have HG2 := Lib.hid (pages_calls h6)
  clear HG hv6
  go_wp2_with fail
  go_at_call 46
  refine HG2.out.mono ?_
  rintro e w7 ⟨v7, rfl, hv7, b7⟩
  obtain ⟨g7, cap7, rfl, -, -⟩ := Cut.formS (.inl hv7) (by decide)
  have p7 : w7.cell? ⟨g7, 0, none⟩ = some (.string pgS) := Cut.cells (.inl hv7) (g := g7) rfl 0 _ rfl
  have z7 := b7.size
  have h7 := h6.below b7
  have r7 := (b7.cell (p := ⟨g4, 0, none⟩) (World.block_lt_of_cell? _ _ r6)).trans r6
  go_wp2_with fail
  obtain ⟨i0, hi, hz0, hz1, hz2⟩ := info_parts infoEn
  have HO := Lib.hid (openS_calls h7)
  go_at_call 41
  refine HO.out.mono ?_
  rintro e w8 ⟨v8, rfl, hv8, b8⟩
  obtain ⟨g8, cap8, rfl, -, -⟩ := Cut.formS (.inl hv8) (by decide)
  have r8 : w8.cell? ⟨g8, 0, none⟩ = some (.int .i64 1) := Cut.cells (.inl hv8) (g := g8) rfl 0 _ rfl
  have z8 := b8.size
  have bw8 : Below w.heap.size w w8 := (((bw4.trans (b5.mono (by omega))).trans (b6.mono (by omega))).trans (b7.mono (by omega))).trans (b8.mono (by omega))
  have b48 : Below w4.heap.size w4 w8 := ((b5.trans (b6.mono (by omega))).trans (b7.mono (by omega))).trans (b8.mono (by omega))
  have h8 := h4.below b48
  have hb8 := (b48.block _ (lt_of_block hb4)).trans hb4
  clear HO hv8 r4 r5 r6 r7 p7 hv7 h5 h6 h7 b5 b6 b7 HG2
  go_wp2_with fail
  go_at_call 40
  refine (same_one (a := 1) (by rw [World.cell?_alloc_lt _ _ _ (World.block_lt_of_cell? _ _ r8)]; exact r8) (cell_of_block (last_block _ _ _ (by simp)) 0)).mono ?_
  rintro e w9 ⟨rfl, b9⟩
  have hb9 := carry b9 hb8
  have bw9 := carryB bw8 b9
  have h9 := (h8.below ((Below.refl _ _).alloc (Nat.le_refl _) _)).below b9
  have hown : w9.ownsRow w.heap.size 32 12 (.slice (some ⟨w1.heap.size, 0, none⟩) 1 1) 1 (enCells [xU]) := ⟨rfl, .inr ⟨w1.heap.size, 1, (enCells [xU]).toArray, rfl, z1, hb9.trans (by rw [hO]), Nat.le_refl _, by decide, rfl, rfl⟩⟩
  have z9 := bw9.size
  clear r8
  go_wp2_with (first | (at_builtin; refine wpList_append_g (.tmp 95) (.tmp 97) 22 rfl rfl w.heap.size 32 i0 zeroEn 12 144 Try.underlying22 hi hz0 hz1 hz2 rfl (by decide) _ _ _ rfl (hown.alloc _) ⟨w9.heap.size, 0, none⟩ 1 1 (enCells [x200]) rfl rfl (World.news_of_block (heap_alloc_new w9 _)) (by intro v hv; simp [enCells, rcCells, x200] at hv; rcases hv with rfl | rfl | rfl | rfl | rfl | rfl <;> rfl) (by decide) (by decide) (by omega) (by simp; omega) _ rfl ?_; intro g10 cap10 w10 hown10 hg10 hat10 hlt10))
  have hg11 : World.grownBy _ w10 (some w1.heap.size) := hg10
  have bw10 : Below w.heap.size w w10 := (bw9.alloc z9 _).grown hg11 (by simp; omega) (fun k hk => by
    injection hk with hk
    omega)
  have h10 : SbAt w10 w.heap.size sb pb mb cap lv3 sbU := (h9.below ((Below.refl _ _).alloc (Nat.le_refl _) _)).kept (fun k hk ho => hg11.block k hk (fun e => by
    injection e with e
    exact hn3 (by rw [← e]; exact ho)))
  obtain ⟨lb, hL10⟩ := Lst.owned (es := [xU, x200]) (c := cap10) (A := some ⟨g10, 0, none⟩) (n := 2) hown10 rfl
  have HLG := Lib.hid (lag_calls (c := cap10) h10 hL10 okU2 (by decide))
  rw [show lagC sbU [xU, x200] = 1 from lag_u _] at HLG
  go_at_call 47
  refine HLG.out.mono ?_
  rintro e w11 ⟨rfl, b11⟩
  have bw11 : Below w.heap.size w w11 := bw10.trans (b11.mono bw10.size)
  clear HLG
  go_wp2_with fail
  go_ret
  exact ⟨rfl, bw11⟩
end Go.Proofs.Ytepkonhgkabkcaa
