/- The walk of diff.changes. -/
import Derived.Test.YtfeeincglijmjaaDC
namespace Go.Proofs.Ytfeeincglijmjaa
open Go.RowKit
set_option linter.unusedVariables false
set_option linter.unusedSimpArgs false
attribute [local go_sem] Oper.semAt_some

/-- What numbers of the callee's own are handed back as. -/
def RetI (w : World) (l : List Int) (e : Ending) (w' : World) : Prop :=
  ∃ A c, e = .returned (.slice A l.length c) ∧ w'.ownsRow w.heap.size 3 1 (.slice A l.length c) l.length (intCells l) ∧ Below w.heap.size w w'
/-- The rows that came. -/
def vals {M : List Rw} (l : List (In M)) : List Rw := l.map (·.1)
theorem vals_snoc {M : List Rw} (l : List (In M)) (x : In M) : vals (l ++ [x]) = vals l ++ [x.1] := by simp [vals]
theorem vals_all (M : List Rw) : vals M.attach = M := by unfold vals; exact List.attach_map_subtype_val M
theorem vals_len {M : List Rw} (l : List (In M)) : (vals l).length = l.length := by simp [vals]

theorem rows_mem (T : List (Int × Int)) (r : Rw) : ∀ (k p : Nat) (f : List (Int × Int)), p ≤ T.length → r ∈ dRowsF k p f (T.drop p) → r.a + r.l.length ≤ T.length ∧ (T.drop r.a).take r.l.length = r.l ∧ 0 < r.l.length ∧ r.s ≤ r.a
  | 0, p, f, hp, h => by simp [dRowsF] at h
  | k + 1, p, f, hp, h => by
    simp only [dRowsF] at h
    have h1 := dDiff_le (f.drop (dSame f (T.drop p))) ((T.drop p).drop (dSame f (T.drop p)))
    have h2 := dSame_le f (T.drop p)
    generalize dDiff (f.drop (dSame f (T.drop p))) ((T.drop p).drop (dSame f (T.drop p))) = n at *
    generalize dSame f (T.drop p) = s at *
    rw [List.length_drop, List.length_drop] at h1
    rw [List.length_drop] at h2
    by_cases h0 : n = 0
    · rw [if_pos h0] at h; cases h
    · rw [if_neg h0] at h
      rcases List.mem_cons.1 h with rfl | h
      · have e : (((T.drop p).drop s).take n).length = n := by rw [List.length_take, List.length_drop, List.length_drop]; omega
        refine ⟨?_, ?_, ?_, ?_⟩
        · show p + s + _ ≤ _; rw [e]; omega
        · show (T.drop (p + s)).take _ = _; rw [e, List.drop_drop]
        · show 0 < _; rw [e]; omega
        · show s ≤ p + s; omega
      · rw [List.drop_drop, show p + (s + n) = p + s + n from by omega] at h
        exact rows_mem T r k (p + s + n) _ (by omega) h

theorem rNums_le {M : List Rw} {q : Nat} (hM : ∀ r ∈ M, r.l.length ≤ q) : ∀ l : List (In M), (rNums (vals l)).length ≤ l.length * (2 * q + 2)
  | [] => by simp [vals, rNums]
  | x :: l => by
    have h1 := rNums_le hM l
    have h2 := hM x.1 x.2
    have h3 := cNums_length x.1.l
    simp only [vals, List.map_cons, rNums, List.length_cons, List.length_append] at h1 ⊢
    rw [Nat.add_mul]
    omega

theorem LL.grow' {n₀ Bf Bt N N2 Bx : Nat} {W w1 : World} {base g : Nat} {L m : List Int} {A A' : Option Addr} {c c' : Nat} {o : Obj} {cf ct cx : Array Value} (hN : L.length = N) (hN2 : (L ++ m).length = N2) (h1 : Blk W g 88 #[.slice A N c]) (h2 : W.ownsRow base 3 1 (.slice A N c) N (intCells L))
    (hbf : Blk W Bf 32 cf) (hbt : Blk W Bt 32 ct) (hbx : Blk W Bx 129 cx) (hn : n₀ ≤ base) (hng : n₀ ≤ g) (hb : base ≤ W.heap.size) (hgx : g ≠ Bx) (hgf : g ≠ Bf) (hgt : g ≠ Bt)
    (hown : w1.ownsRow base 3 1 (.slice A' N2 c') N2 (intCells (L ++ m))) (hg : (W.alloc o).grownBy w1 (Value.ownBlock (.slice A N c))) :
    Blk w1 g 88 #[.slice A N c] ∧ Blk w1 Bx 129 cx ∧ LL (w1.setCell ⟨g, 0, none⟩ (.slice A' N2 c')) base g (L ++ m) ∧ Stp n₀ Bf Bt W (w1.setCell ⟨g, 0, none⟩ (.slice A' N2 c')) ∧ Blk (w1.setCell ⟨g, 0, none⟩ (.slice A' N2 c')) Bf 32 cf ∧ Blk (w1.setCell ⟨g, 0, none⟩ (.slice A' N2 c')) Bt 32 ct ∧ Blk (w1.setCell ⟨g, 0, none⟩ (.slice A' N2 c')) Bx 129 cx ∧ W.heap.size < w1.heap.size := by
  subst hN
  subst hN2
  have hx := (hbx.alloc o).grown hg (not_row3 (by decide) hbx h2)
  have hz : W.heap.size < w1.heap.size := by have := hg.size; rw [World.size_alloc] at this; omega
  obtain ⟨a1, a2, a3, a4, a5⟩ := LL.grow (W0 := 0) h1 h2 hbf hbt hn hng hb hown hg
  exact ⟨a1, hx, a2, a3, a4.far hgf.symm _, a5.far hgt.symm _, hx.far hgx.symm _, hz⟩

set_option maxRecDepth 100000 in
set_option maxHeartbeats 16000000 in
theorem changes_any {lo up lo2 up2 cf ct : Nat} {Af At : Option Addr} {f t : List (Int × Int)} {w : World} (hs : Sl w lo up 2 Af f.length cf (cCells f)) (hup : up ≤ w.heap.size) (hs2 : Sl w lo2 up2 2 At t.length ct (cCells t)) (hup2 : up2 ≤ w.heap.size)
    (hl : f.length = t.length) (hle : t.length ≤ 100000) : Calls Try.prog 58 #[.slice Af f.length cf, .slice At t.length ct] w (RetI w (dChg f t)) := by
  obtain ⟨i0, hi0, hz0, hz1, hz2⟩ := info_parts info3
  obtain ⟨b, o, hAt⟩ : ∃ b o, 0 < t.length → At = some ⟨b, o, none⟩ := by
    by_cases h : 0 < t.length
    · obtain ⟨b, o, e, _⟩ := hs2.at_ h
      exact ⟨b, o, fun _ => e⟩
    · exact ⟨0, 0, fun hh => absurd hh h⟩
  have HL := Lib.hid hl
  have HAt := Lib.hid hAt
  clear hl hAt
  refine (callsIn_wide (n := 9)).1 ?_
  refine callsIn_of_wp_marks Try.func58 rfl trivial ?_ rfl
  simp only [Try.ntmps58, List.size_toArray, List.length_cons, List.length_nil, Nat.reduceAdd, Nat.reduceSub, Array.replicate_succ, Array.replicate_zero, List.push_toArray, List.append_toArray, List.nil_append, List.cons_append]
  gi_wp2_with (refine ⟨trivial, ?_⟩; gi_at_call 91; refine (rows_in _ _ _ _ _ _ _ _).mono ?_; rintro e w' ⟨rfl, rfl⟩)
  obtain ⟨W0, hW0⟩ : ∃ W0, ((((w.alloc (.cells #[.int .i64 0] 3)).alloc (.cells #[.slice (some ⟨w.heap.size, 0, none⟩) 1 1] 88)).alloc (.cells #[.slice Af f.length cf] 32)).alloc (.cells #[.slice At t.length ct] 32)) = W0 := ⟨_, rfl⟩
  have b1 : Blk W0 (w.heap.size + 1) 88 #[.slice (some ⟨w.heap.size, 0, none⟩) 1 1] := by rw [← hW0]; exact ((Blk.new _ 88 _ (by simp)).alloc _).alloc _
  have bF : Blk W0 (w.heap.size + 1 + 1) 32 #[.slice Af f.length cf] := by rw [← hW0]; exact (Blk.new _ 32 _ (by simp)).alloc _
  have bT : Blk W0 (w.heap.size + 1 + 1 + 1) 32 #[.slice At t.length ct] := by rw [← hW0]; exact Blk.new _ 32 _ (by simp)
  have hown : W0.ownsRow w.heap.size 3 1 (.slice (some ⟨w.heap.size, 0, none⟩) 1 1) 1 (intCells [0]) := by
    have hb : Blk W0 w.heap.size 3 #[.int .i64 0] := by rw [← hW0]; exact (((Blk.new w 3 _ rfl).alloc _).alloc _).alloc _
    exact own_mk (Nat.le_refl _) hb (Nat.le_refl _) (by unfold maxLen; omega) rfl rfl
  have hB0 : Below w.heap.size w W0 := by rw [← hW0]; exact ((((Below.refl _ w).alloc (Nat.le_refl _) _).alloc (by simp) _).alloc (by simp; omega) _).alloc (by simp; omega) _
  have hsz : w.heap.size + 4 ≤ W0.heap.size := by rw [← hW0]; simp
  have hs0 := hs.below hB0 hup
  have hs20 := hs2.below hB0 hup2
  rw [hW0]
  clear hW0
  have hN : (dRows 0 f t).length ≤ 100000 := Nat.le_trans (rows_size _ _ _ _).1 hle
  have hNum : (rNums (dRows 0 f t)).length ≤ 400000 := Nat.le_trans (rows_size (t.length + 1) 0 f t).2 (by omega)
  have HMEM : Hid (∀ r ∈ dRows 0 f t, r.a + r.l.length ≤ t.length ∧ (t.drop r.a).take r.l.length = r.l ∧ 0 < r.l.length ∧ r.s ≤ r.a) := Lib.hid (fun r hr => rows_mem t r (t.length + 1) 0 f (Nat.zero_le _) hr)
  have HS2 := Lib.hid hs2
  clear hs hs2
  refine wpIn_rangeFunc_ownH rfl (by omega) (gf := 105) (lb := #[.pointer (some ⟨w.heap.size + 1 + 1 + 1, 0, none⟩), .pointer (some ⟨w.heap.size + 1 + 1, 0, none⟩)]) rfl trivial (enters_of Try.func105 (by kernel_rfl) rfl)
    (rows_stops (9 - 1) (by omega) (w.heap.size + 1 + 1) (w.heap.size + 1 + 1 + 1) w.heap.size b o W0 hs0 hs20 hup hup2 (by omega) bF bT HL.out (by omega) HAt.out) kpt_t (kpt_b (by omega) (by omega) (by omega)) (Below.refl _ _) (fun _ => rfl)
    (fun pre W => (LL W w.heap.size (w.heap.size + 1) ((pre.length : Int) :: rNums (vals pre)) ∧ (Blk W (w.heap.size + 1 + 1) 32 #[.slice Af f.length cf] ∧ Blk W (w.heap.size + 1 + 1 + 1) 32 #[.slice At t.length ct])) ∧ Below w.heap.size w W)
    (fun _ _ _ => False)
    (OwnFrom.and (OwnFrom.and (ll_from _ _ _ _) (OwnFrom.and (blk_from _ _ _ _) (blk_from _ _ _ _))) (ownFrom_below (Nat.le_refl _) (by omega)))
    (fun _ _ _ _ _ hs _ _ => hs)
    ⟨⟨⟨_, _, b1, hown⟩, bF, bT⟩, hB0⟩
    (fun x a' W => ∃ Bx, w.heap.size + 1 + 1 + 1 < Bx ∧ Blk W Bx 129 #[.int .i64 x.1.s, .slice (some ⟨b, o + x.1.a * 2, none⟩) x.1.l.length x.1.l.length] ∧ a' = { tmps := #[.slice Af f.length cf, .slice At t.length ct, undef, undef, .slice none 0 0, .pointer (some ⟨w.heap.size + 1, 0, none⟩), .pointer (some ⟨Bx, 0, none⟩), undef, undef, .slice (some ⟨w.heap.size, 0, none⟩) 1 1, .slice Af f.length cf, .slice At t.length ct, .func (.func 105) #[] #[.pointer (some ⟨w.heap.size + 1 + 1 + 1, 0, none⟩), .pointer (some ⟨w.heap.size + 1 + 1, 0, none⟩)], rwV b o x.1, undef, undef, undef, undef, undef, undef, undef, undef, undef, undef, undef, undef, undef, undef, undef, undef, undef, undef, undef, undef, undef, undef, undef, undef, undef, undef, undef, undef, undef], defers := [] })
    (fun x a' _ X Y row hs hg hr => by obtain ⟨Bx, h1, h2, h3⟩ := hs; exact ⟨Bx, h1, blk_from _ Bx 129 (fun (_ : Unit) => _) () X Y row h2 hg hr, h3⟩)
    ?assign ?body ?done ?stop
  case assign =>
    rintro l pre ⟨r, hx⟩ W K ⟨⟨hT1, bF1, bT1⟩, hB1⟩ hK
    simp only [rwV] at *
    gi_wp2
    have st := stp_alloc (n₀ := w.heap.size) W (.cells #[.int .i64 r.s, .slice (some ⟨b, o + r.a * 2, none⟩) r.l.length r.l.length] 129) hB1.size bF1.lt bT1.lt
    exact hK _ _ (st.1.from _) st.2 ⟨⟨hT1.alloc _, bF1.alloc _, bT1.alloc _⟩, hB1.alloc hB1.size _⟩ ⟨W.heap.size, bT1.lt, Blk.new W 129 _ rfl, rfl⟩
  case body =>
    rintro l pre ⟨r, hx⟩ a' W hl ⟨rr, hrr⟩ ⟨⟨hT1, bF1, bT1⟩, hB1⟩ ⟨Bx, hBx, bX, rfl⟩ hlt
    simp only [rwV] at *
    have ⟨kx, fx⟩ := bX.rules
    obtain ⟨m1, m2, m3, m4⟩ := HMEM.out r hx
    obtain ⟨A, c, h1, h2⟩ := hT1
    have hpl : pre.length ≤ 100000 := by omega
    have hrl : (rNums (vals pre)).length ≤ 30000000000 := by
      have e1 := rNums_le (q := 100000) (fun r hr => by have := HMEM.out r hr; omega) pre
      have e2 : pre.length * (2 * 100000 + 2) ≤ 100000 * (2 * 100000 + 2) := Nat.mul_le_mul_right _ hpl
      omega
    obtain ⟨gA, hgA⟩ : ∃ gA, A = some ⟨gA, 0, none⟩ := by
      rcases h2.2 with ⟨_, h0⟩ | ⟨g', _, _, hv, _⟩
      · simp at h0
      · injection hv with hv; exact ⟨g', hv⟩
    subst hgA
    obtain ⟨R, hR⟩ : ∃ R, R = rNums (vals pre) := ⟨_, rfl⟩
    obtain ⟨k, hk⟩ : ∃ k, k = pre.length := ⟨_, rfl⟩
    have HR := Lib.hid (And.intro hR hk)
    rw [← hR] at h1 h2 hrl
    rw [← hk] at h1 h2 hpl
    obtain ⟨N0, hN0⟩ : ∃ N0, N0 = ((k : Int) :: R).length := ⟨_, rfl⟩
    have hn1 : 1 ≤ N0 := by rw [hN0]; simp
    have hn2 : N0 ≤ 30000000001 := by rw [hN0]; simp; omega
    have HN0 := Lib.hid hN0
    rw [← hN0] at h1 h2
    clear hR hk hN0
    have c0 : W.cell? ⟨gA, 0, none⟩ = some (.int .i64 k) := by rw [h2.cellAt 0 (by omega)]; rfl
    have f0 := h2.frozenAt 0
    have hk0 : (0 : Int) ≤ k := by omega
    have hk1 : (k : Int) ≤ 100000 := by omega
    have ⟨k1, f1⟩ := h1.rules
    have ho1 : (W.setCell ⟨gA, 0, none⟩ (.int .i64 ((k : Int) + 1))).ownsRow w.heap.size 3 1 (.slice (some ⟨gA, 0, none⟩) N0 c) N0 (intCells (((k : Int) + 1) :: R)) := (h2.stored 0 (.int .i64 ((k : Int) + 1))).1
    have e1 := not_row3 (by decide) h1 h2
    have e2 := not_row3 (by decide) bF1 h2
    have e3 := not_row3 (by decide) bT1 h2
    have e4 := not_row3 (by decide) bX h2
    have n1 : w.heap.size + 1 ≠ gA := fun e => e1 (by rw [e]; rfl)
    have n2 : w.heap.size + 1 + 1 ≠ gA := fun e => e2 (by rw [e]; rfl)
    have n3 : w.heap.size + 1 + 1 + 1 ≠ gA := fun e => e3 (by rw [e]; rfl)
    have n4 : Bx ≠ gA := fun e => e4 (by rw [e]; rfl)
    have hgb := (h2.lt gA rfl).1
    have st1 := stp_set (n₀ := w.heap.size) (Bf := w.heap.size + 1 + 1) (Bt := w.heap.size + 1 + 1 + 1) W ⟨gA, 0, none⟩ (.int .i64 ((k : Int) + 1)) hgb (fun e => n2 e.symm) (fun e => n3 e.symm)
    have h11 := h1.far (p := ⟨gA, 0, none⟩) n1 (.int .i64 ((k : Int) + 1))
    have bF2 := bF1.far (p := ⟨gA, 0, none⟩) n2 (.int .i64 ((k : Int) + 1))
    have bT2 := bT1.far (p := ⟨gA, 0, none⟩) n3 (.int .i64 ((k : Int) + 1))
    have bX2 := bX.far (p := ⟨gA, 0, none⟩) n4 (.int .i64 ((k : Int) + 1))
    have hzB : w.heap.size + 4 ≤ W.heap.size := by have := bX.lt; omega
    have HO1 := Lib.hid ho1
    have hrl2 : r.l.length ≤ 100000 := by omega
    have h19 : 1 ≤ 9 - 1 - 1 := by omega
    clear ho1 e1 e2 e3 e4 h1 h2 bF1 bT1 bX
    have hl1 : (((k : Int) + 1) :: R).length = N0 := by rw [HN0.out]; simp
    have hl2 : ((((k : Int) + 1) :: R) ++ [(r.s : Int), (r.l.length : Int)]).length = N0 + 2 := by rw [List.length_append, hl1]; rfl
    have GG := Lib.hid (fun A' c' w1 (hown : World.ownsRow w1 w.heap.size 3 1 (.slice A' (N0 + 2) c') (N0 + 2) (intCells ((((k : Int) + 1) :: R) ++ [(r.s : Int), (r.l.length : Int)]))) hg => LL.grow' (n₀ := w.heap.size) (Bf := w.heap.size + 1 + 1) (Bt := w.heap.size + 1 + 1 + 1) (Bx := Bx) (N := N0) (N2 := N0 + 2) (A' := A') (c' := c') (w1 := w1) (o := .cells #[.int .i64 r.s, .int .i64 r.l.length] 3) hl1 hl2 h11 HO1.out bF2 bT2 bX2 (Nat.le_refl _) (by omega) (by rw [World.size_setCell]; omega) (by omega) (by omega) (by omega) hown hg)
    clear hl1 hl2
    gi_wp2_with (gi_at_builtin; refine wpListIn_append_sl2 _ rfl (.tmp 19) (.tmp 25) 88 rfl w.heap.size 3 i0 _ 1 8 Try.underlying88 hi0 hz0 hz1 hz2 rfl (by omega) (.slice (some ⟨gA, 0, none⟩) N0 c) N0 _ rfl (own_alloc HO1.out _) W.heap.size (W.heap.size + 1) _ 2 2 _ rfl (Sl.new (g := W.heap.size) (W.setCell ⟨gA, 0, none⟩ (.int .i64 ((k : Int) + 1))) 3 #[.int .i64 r.s, .int .i64 r.l.length] 1 2 2 (intCells [(r.s : Int), (r.l.length : Int)]) (by simp) (by omega) rfl rfl) (intCells_one _) (N0 + 2) rfl _ (intCells_append _ [(r.s : Int), (r.l.length : Int)]).symm (by unfold maxLen; omega) (by omega) (by simp; omega) ?_; intro A4 c4 w4 hown4 hg4 hbl4; obtain ⟨p1, p2, p3, p4, p5, p6, p7, p8⟩ := GG.out A4 c4 w4 hown4 hg4; have ⟨kl, fl⟩ := p1.rules; have ⟨kx4, fx4⟩ := p2.rules; have hz4 : w.heap.size + 1 < w4.heap.size := by (rw [World.size_setCell] at p8; omega))
    have st2 := stp_t st1 p4
    have bb2 := hB1.trans st2.2.1
    have hlt2 : w4.heap.size ≤ (w4.setCell ⟨w.heap.size + 1, 0, none⟩ (.slice A4 (N0 + 2) c4)).heap.size := by simp
    obtain ⟨W2, hW2⟩ : ∃ W2, W2 = w4.setCell ⟨w.heap.size + 1, 0, none⟩ (.slice A4 (N0 + 2) c4) := ⟨_, rfl⟩
    rw [← hW2] at p3 p5 p6 p7 st2 bb2 hlt2 ⊢
    clear hW2 p1 p2 p4 kl fl kx4 fx4 hown4 hg4 hbl4 k1 f1 c0 f0 kx fx st1 h11 bF2 bT2 bX2
    have hW3 : W.heap.size ≤ W2.heap.size := by rw [World.size_setCell] at p8; omega
    have HGG := GG
    clear GG p8 hz4 hlt2
    obtain ⟨L1, hL1⟩ : ∃ L1, L1 = (((k : Int) + 1) :: R) ++ [(r.s : Int), (r.l.length : Int)] := ⟨_, rfl⟩
    rw [← hL1] at p3
    have hL1l : L1.length ≤ 40000000000 := by rw [hL1]; simp; omega
    have HL1 := Lib.hid hL1
    clear hL1 HGG HO1
    have ⟨kx, fx⟩ := p7.rules
    gi_wp2
    gi_loopg [30] r.l.length (fun gh s30 wr => ∃ j : Nat, s30 = .int .i64 j ∧ j ≤ r.l.length ∧ gh = r.l.length - j ∧ LL wr w.heap.size (w.heap.size + 1) (L1 ++ cNums (r.l.take j)) ∧ Blk wr (w.heap.size + 1 + 1) 32 #[.slice Af f.length cf] ∧ Blk wr (w.heap.size + 1 + 1 + 1) 32 #[.slice At t.length ct] ∧ Blk wr Bx 129 #[.int .i64 r.s, .slice (some ⟨b, o + r.a * 2, none⟩) r.l.length r.l.length] ∧ Stp w.heap.size (w.heap.size + 1 + 1) (w.heap.size + 1 + 1 + 1) W wr ∧ Below w.heap.size w wr ∧ W.heap.size ≤ wr.heap.size)
    case atStart => exact ⟨0, rfl, Nat.zero_le _, by omega, by simpa [cNums] using p3, p5, p6, p7, st2, bb2, hW3⟩
    case round =>
      clear p3 p5 p6 p7 st2 bb2 hW3 kx fx
      obtain ⟨j, rfl, hj, hg, hT, bF3, bT3, bX3, st3, bb3, hW3⟩ := hrel
      have HG := Lib.hid hg
      clear hg
      by_cases h : j < r.l.length
      · obtain ⟨A, c, h1, h2⟩ := hT
        obtain ⟨b', o', e', _, hcc⟩ := slc_cell (HS2.out.below bb3 hup2) (by omega)
        have eA := HAt.out (by omega)
        rw [eA] at e'
        injection e' with e'
        injection e' with e1 e2
        subst e1 e2
        obtain ⟨k3, k4⟩ := hcc (r.a + j) (by omega)
        have hrj : t[r.a + j] = r.l[j] := by
          have hh := congrArg (fun l => l[j]?) m2
          simp only [List.getElem?_take_of_lt h, List.getElem?_drop, List.getElem?_eq_getElem h, List.getElem?_eq_getElem (show r.a + j < t.length by omega)] at hh
          injection hh
        have htk : cNums (r.l.take (j + 1)) = cNums (r.l.take j) ++ [r.l[j].1, r.l[j].2] := by
          rw [List.take_succ_eq_append_getElem h, cNums_append]
          rfl
        have Htk := Lib.hid htk
        have eo : o + (r.a + j) * 2 = o + r.a * 2 + j * 2 := by omega
        rw [hrj, eo] at k3 k4
        clear hcc hrj htk eA eo
        have a1 := addr_add b (o + r.a * 2) (j * 2)
        generalize r.l[j].1 = x at *
        generalize r.l[j].2 = y at *
        have hcl : (cNums (r.l.take j)).length ≤ 200000 := by rw [cNums_length, List.length_take]; omega
        obtain ⟨L2, hL2⟩ : ∃ L2, L2 = L1 ++ cNums (r.l.take j) := ⟨_, rfl⟩
        have hL2l : L2.length ≤ 40000200000 := by rw [hL2, List.length_append]; omega
        rw [← hL2] at h1 h2
        have HL2 := Lib.hid hL2
        clear hL2 hcl
        obtain ⟨N0', hN0⟩ : ∃ N0', L2.length = N0' := ⟨_, rfl⟩
        rw [hN0] at h1 h2 hL2l
        have h1a := h1.alloc (.cells #[.int .i64 x, .int .i64 y] 64)
        have h2a := own_alloc h2 (.cells #[.int .i64 x, .int .i64 y] 64)
        have bFa := bF3.alloc (.cells #[.int .i64 x, .int .i64 y] 64)
        have bTa := bT3.alloc (.cells #[.int .i64 x, .int .i64 y] 64)
        have bXa := bX3.alloc (.cells #[.int .i64 x, .int .i64 y] 64)
        have sta := stp_t st3 (stp_alloc wr (.cells #[.int .i64 x, .int .i64 y] 64) (by omega) bF3.lt bT3.lt)
        have hl2 : (L2 ++ [x, y]).length = N0' + 2 := by rw [List.length_append, hN0]; rfl
        have GG := Lib.hid (fun A' c' w1 (hown : World.ownsRow w1 w.heap.size 3 1 (.slice A' (N0' + 2) c') (N0' + 2) (intCells (L2 ++ [x, y]))) hg => LL.grow' (n₀ := w.heap.size) (Bf := w.heap.size + 1 + 1) (Bt := w.heap.size + 1 + 1 + 1) (Bx := Bx) (N := N0') (N2 := N0' + 2) (A' := A') (c' := c') (w1 := w1) (o := .cells #[.int .i64 x, .int .i64 y] 3) hN0 hl2 h1a h2a bFa bTa bXa (Nat.le_refl _) (by omega) (by rw [World.size_alloc]; omega) (by omega) (by omega) (by omega) hown hg)
        have HO := Lib.hid h2a
        have ⟨kl0, fl0⟩ := h1.rules
        have ⟨kc0, fc0⟩ := (Blk.new wr 64 #[.int .i64 x, .int .i64 y] rfl).rules
        clear hl2 h2 h1a h2a bFa bTa bXa hN0
        have hgl : w.heap.size + 1 < wr.heap.size := by omega
        gi_wp2_with (gi_at_builtin; refine wpListIn_append_sl2 _ rfl (.tmp 34) (.tmp 39) 88 rfl w.heap.size 3 i0 _ 1 8 Try.underlying88 hi0 hz0 hz1 hz2 rfl (by omega) (.slice A N0' c) N0' _ rfl (own_alloc HO.out _) (wr.heap.size + 1) (wr.heap.size + 1 + 1) _ 2 2 _ rfl (Sl.new (g := wr.heap.size + 1) (wr.alloc (.cells #[.int .i64 x, .int .i64 y] 64)) 3 #[.int .i64 x, .int .i64 y] 1 2 2 (intCells [x, y]) (by simp) (by omega) rfl rfl) (intCells_one _) (N0' + 2) rfl _ (intCells_append _ [x, y]).symm (by unfold maxLen; omega) (by omega) (by simp; omega) ?_; intro A4 c4 w4 hown4 hg4 hbl4; obtain ⟨p1, p2, p3, p4, p5, p6, p7, p8⟩ := GG.out A4 c4 w4 hown4 hg4; have ⟨kl, fl⟩ := p1.rules)
        gi_roundg (r.l.length - (j + 1))
        case measure => have := HG.out; omega
        case rel => exact ⟨j + 1, by go_num, by omega, rfl, by rw [Htk.out, ← List.append_assoc, ← HL2.out]; exact p3, p5, p6, p7, stp_t sta p4, bb3.trans ((stp_t (stp_alloc wr (.cells #[.int .i64 x, .int .i64 y] 64) (by omega) bF3.lt bT3.lt) p4).2.1), by rw [World.size_setCell]; rw [World.size_alloc] at p8; omega⟩
      · obtain rfl : j = r.l.length := by omega
        rw [List.take_of_length_le (Nat.le_refl _)] at hT
        gi_wp2
        refine ⟨st3.1.from _, st3.2, ⟨?_, bF3, bT3⟩, bb3⟩
        rw [vals_snoc, rNums_append, ← HR.out.1]
        simp only [rNums, List.append_nil]
        rw [HL1.out, HR.out.2] at hT
        simpa [List.append_assoc] using hT
  case done =>
    rintro D ys W hD rfl ⟨⟨⟨A, c, h1, h2⟩, bF1, bT1⟩, hB⟩ hK
    rw [vals_all, List.length_attach] at h1 h2
    obtain ⟨L, hL⟩ : ∃ L, L = dChg f t := ⟨_, rfl⟩
    have e : ((dRows 0 f t).length : Int) :: rNums (dRows 0 f t) = L := by rw [hL]; rfl
    rw [e] at h1 h2
    have HLL := Lib.hid hL
    clear hL e
    have ⟨k1, f1⟩ := h1.rules
    gi_wp2
    refine ⟨by simp, .inl ⟨_, _, rfl, run_takeDeferred hK, ?_⟩⟩
    have r5 := own_kept_from (B := D) (row := some D) (W' := W.putObj D (.deferred none)) (W := W) h2 (grownBy_putObj' _ D _) (fun r e => by cases e; exact ⟨Nat.le_refl _, _, hK, rfl⟩)
    have b5 := hB.trans (belowK_b (w := w) (Nat.le_refl _) W D (.deferred (some [])) (.deferred none) (by omega) hK rfl rfl)
    refine ⟨.slice A L.length c, by simp [results, Try.f58, go_sem], ⟨A, c, by rw [← HLL.out], ?_, b5⟩⟩
    rw [← HLL.out]
    exact r5
  case stop =>
    rintro D c pre W _ _ h _
    exact h.elim
end Go.Proofs.Ytfeeincglijmjaa
