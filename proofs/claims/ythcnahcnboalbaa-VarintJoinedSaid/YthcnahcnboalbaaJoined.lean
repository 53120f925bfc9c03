/- The walk of VarintJoined. -/
import Derived.Test.YthcnahcnboalbaaMany
namespace Go.Proofs.Ythcnahcnboalbaa
open Go.RowKit
set_option linter.unusedVariables false
set_option linter.unusedSimpArgs false
attribute [local go_sem ↓] Go.wp_at_zero Go.wp_at_succ

theorem joined_long {A B C : Option Addr} {n1 c1 n2 c2 n3 c3 : Nat} {w : World} (hn : 100 < n1 ∨ 100 < n2 ∨ 300 < n3) : Calls Try.prog 7 #[.slice A n1 c1, .slice B n2 c2, .slice C n3 c3] w fun e w' => e = .returned (.bool true) ∧ Below w.heap.size w w' := by
  go_enter Try.func7, Try.ntmps7
  go_wp2_with fail
  refine (awake_any _).mono ?_
  rintro e w1 ⟨rfl, bb⟩
  rcases hn with h | h | h
  all_goals
    go_wp2
    all_goals
      go_ret
      exact ⟨rfl, bb⟩

/-- A quarter of each. -/
def quarter (l : List Int) : List Int := l.map (· / 4)
theorem quarter_length (l : List Int) : (quarter l).length = l.length := by simp [quarter]
theorem quarter_take {l : List Int} {i : Nat} (h : i < l.length) : intCells ((quarter l).take (i + 1)) = intCells ((quarter l).take i) ++ [.int .i64 (l[i] / 4)] := by
  rw [List.take_succ_eq_append_getElem (by rw [quarter_length]; exact h), intCells_append]
  simp [quarter, intCells]
theorem quarter_size {l : List Int} (h : ∀ x ∈ l, 0 ≤ x ∧ x ≤ 18446744073709551615) : ∀ x ∈ quarter l, vSize x ≠ 0 := by
  intro x hx
  simp only [quarter, List.mem_map] at hx
  obtain ⟨y, hy, rfl⟩ := hx
  have := h y hy
  exact vSize_ne (by omega) (by omega)
theorem range_of {l : List Int} (h : ∀ x ∈ l, vSize x ≠ 0) : ∀ x ∈ l, -9223372036854775808 ≤ x ∧ x ≤ 9223372036854775807 := by
  intro x hx
  have := vSize_range (h x hx)
  omega
theorem uint_cell {w : World} {lo up n c : Nat} {A : Option Addr} {l : List Int} (hr : Sl w lo up 1 A n c (l.map fun x => .int .u64 x)) (hn : 0 < n) :
    ∃ g o, A = some ⟨g, o, none⟩ ∧ ∀ j (h : j < l.length), w.cell? ⟨g, o + j, none⟩ = some (.int .u64 l[j]) := by
  obtain ⟨g, o, rfl, _, _, hc⟩ := hr.at_ hn
  exact ⟨g, o, rfl, fun j h => by rw [hc j (by rw [List.length_map]; exact h)]; simp [List.getElem?_eq_getElem h]⟩

theorem vAllF_le2 : ∀ (k : Nat) (l : List UInt8) (xs : List Int), vAllF k l = some xs → xs.length ≤ l.length
  | k, [], xs, h => by rw [vAllF_nil] at h; injection h with h; subst h; simp
  | 0, _ :: _, xs, h => by cases h
  | k + 1, b :: r, xs, h => by
    rw [vAllF_cons (by simp)] at h
    rcases vGet_cases (b :: r) with ⟨h0, h1, h2⟩ | h0
    · rw [if_pos h0] at h
      cases h3 : vAllF k ((b :: r).drop (vGet (b :: r)).2.1) with
      | none => rw [h3] at h; cases h
      | some ys =>
        rw [h3] at h
        injection h with h
        subst h
        have := vAllF_le2 k _ _ h3
        rw [List.length_drop] at this
        simp only [List.length_cons] at this h2 ⊢
        omega
    · rw [h0] at h
      cases h
theorem vAll_le2 (l : List UInt8) : (vAll l).1.length ≤ l.length := by
  unfold vAll
  cases h : vAllF l.length l with
  | none => simp
  | some xs => exact vAllF_le2 _ _ _ h

/-- append onto an owned row, the operation's guard on. -/
theorem wpList_append_slw {P : Program} (w : World) {ops : Array Oper} {rest : List Oper} {o : Oper} {a : Act} {Q : Exit → Act → World → Prop} (hw : Region.wanted o (yielded ops a.tmps) = true) (s x : Operand) (t : TypeId)
    (ho : o.op = .call { callee := .builtin .append, args := #[s, x], argTypes := #[t, t] })
    (base : Nat) (e : TypeId) (i : TypeInfo) (z : Value) (size bytes : Nat) (ht : P.underlying t = some (.slice e)) (hi : P.info? e = some i) (hz : i.zero = some z)
    (hsize : i.size = size) (hby : i.bytes = bytes) (hzs : z.cells.size = size) (hsz : 0 < size)
    (v : Value) (n : Nat) (xs : List Value) (hs : a.eval s = v) (hown : w.ownsRow base e size v n xs)
    (lo up : Nat) (A : Option Addr) (m c : Nat) (news : List Value) (hx : a.eval x = .slice A m c) (hr : Sl w lo up size A m c news) (h1 : ∀ u ∈ news, u.oneCell' = true)
    (k : Nat) (hk : n + m = k) (ys : List Value) (hys : xs ++ news = ys)
    (h63 : k ≤ maxLen) (hbytes : k * bytes ≤ 140737488355328) (hbase : base ≤ w.heap.size)
    (h : ∀ A' c' w', w'.ownsRow base e size (.slice A' k c') k ys → w.grownBy w' v.ownBlock → wpList P ops Q rest (a.put o.dst (.slice A' k c')) w') : wpList P ops Q (o :: rest) a w :=
  wpList_step fun K hK => by
    rw [if_pos hw]
    exact wp_append_sl w s x t ho base e i z size bytes ht hi hz hsize hby hzs hsz v n xs hs hown lo up A m c news hx hr h1 k hk ys hys h63 hbytes hbase fun A' c' w' h2 h3 => hK _ _ (h A' c' w' h2 h3)

/-- What any bytes are, as numbers, and these joined again. -/
theorem all_case (b : List UInt8) : ∃ Nl f AG, vAll b = (Nl, f) ∧ vJoin Nl = (AG, 0) ∧ Nl.length ≤ b.length ∧ (∀ x ∈ Nl, -9223372036854775808 ≤ x ∧ x ≤ 9223372036854775807) ∧ ((f = 0 ∧ AG = b) ∨ (f = 10 ∧ Nl = [])) := by
  have hle := vAll_le2 b
  obtain ⟨⟨Nl, f⟩, hall⟩ : ∃ q, q = vAll b := ⟨_, rfl⟩
  rw [← hall] at hle
  rcases vAll_back b with ⟨h1, h2⟩ | h1
  · rw [← hall] at h1 h2
    refine ⟨Nl, f, b, hall.symm, h2, hle, ?_, .inl ⟨h1, rfl⟩⟩
    apply range_of
    unfold vJoin at h2
    by_cases h3 : ∀ x ∈ Nl, vSize x ≠ 0
    · exact h3
    · simp only [if_neg h3] at h2
      injection h2 with _ h2
      cases h2
  · exact ⟨[], 10, [], h1, by decide, by simp, by simp, .inr ⟨rfl, rfl⟩⟩

set_option maxHeartbeats 2000000 in
set_option maxRecDepth 100000 in
theorem joined_any {A B C : Option Addr} {n1 c1 n2 c2 n3 c3 : Nat} {K M : List Int} {b : List UInt8} {w : World} (hA : Sl w 0 w.heap.size 1 A n1 c1 (K.map fun x => .int .u64 x)) (hB : Sl w 0 w.heap.size 1 B n2 c2 (M.map fun x => .int .u64 x)) (hC : Sl w 0 w.heap.size 1 C n3 c3 (byteCells b))
    (hn1 : n1 ≤ 100) (hn2 : n2 ≤ 100) (hn3 : n3 ≤ 300) (hK : ∀ x ∈ K, 0 ≤ x ∧ x ≤ 18446744073709551615) (hM : ∀ x ∈ M, 0 ≤ x ∧ x ≤ 18446744073709551615) :
    Calls Try.prog 7 #[.slice A n1 c1, .slice B n2 c2, .slice C n3 c3] w fun e w' => e = .returned (.bool true) ∧ Below w.heap.size w w' := by
  obtain ⟨i0, hi0, hz0, hz1, hz2⟩ := info_parts info3
  obtain ⟨j0, hj0, jz0, jz1, jz2⟩ := info_parts info5
  have e1 : n1 = K.length := by have := hA.len; rw [List.length_map] at this; omega
  have e2 : n2 = M.length := by have := hB.len; rw [List.length_map] at this; omega
  have e3 : n3 = b.length := by have := hC.len; rw [byteCells_length] at this; omega
  subst e1 e2 e3
  have HK := Lib.hid hK
  have HM := Lib.hid hM
  have HA := Lib.hid hA
  have HB := Lib.hid hB
  have HC := Lib.hid hC
  -- what is known of the bytes
  obtain ⟨Nl, f, AG, hall, hag, hNl, hNr, hcs⟩ := all_case b
  have HAll := Lib.hid (fun W lo up (h : Sl W lo up 1 C b.length c3 (byteCells b)) hu => (show Calls Try.prog 20 #[.slice C b.length c3] W (RetIE W Nl f) from by have := all_any h hu (by omega); rw [hall] at this; exact this))
  have HAgain := Lib.hid (fun W lo up A c (h : Sl W lo up 1 A Nl.length c (intCells Nl)) hu => (show Calls Try.prog 18 #[.slice A Nl.length c] W (RetBE W AG 0) from by have := join_any h hu (by omega) hNr; rw [hag] at this; exact this))
  have HCS := Lib.hid hcs
  clear hA hB hC hK hM hall hag hNr hcs
  -- the joined lists
  have sK := quarter_size HK.out
  have sM := quarter_size HM.out
  have lK := quarter_length K
  have lM := quarter_length M
  have jK : vJoin (quarter K) = (vCat (quarter K), 0) := by unfold vJoin; rw [if_pos sK]
  have jM : vJoin (quarter M) = (vCat (quarter M), 0) := by unfold vJoin; rw [if_pos sM]
  have HJ1 := Lib.hid (fun W lo up A c (h : Sl W lo up 1 A (quarter K).length c (intCells (quarter K))) hu => (show Calls Try.prog 18 #[.slice A (quarter K).length c] W (RetBE W (vCat (quarter K)) 0) from by have := join_any h hu (by omega) (range_of sK); rw [jK] at this; exact this))
  have HJ2 := Lib.hid (fun W lo up A c (h : Sl W lo up 1 A (quarter M).length c (intCells (quarter M))) hu => (show Calls Try.prog 18 #[.slice A (quarter M).length c] W (RetBE W (vCat (quarter M)) 0) from by have := join_any h hu (by omega) (range_of sM); rw [jM] at this; exact this))
  have cK := vCat_le (quarter K)
  have cM := vCat_le (quarter M)
  have hcat : vAll (vCat (quarter K) ++ vCat (quarter M)) = (quarter K ++ quarter M, 0) := by
    rw [← vCat_append]
    apply vAll_vCat
    intro x hx
    rcases List.mem_append.1 hx with h | h
    · exact sK x h
    · exact sM x h
  have HA2 := Lib.hid (fun W lo up A c (h : Sl W lo up 1 A ((vCat (quarter K)).length + (vCat (quarter M)).length) c (byteCells (vCat (quarter K) ++ vCat (quarter M)))) hu => (show Calls Try.prog 20 #[.slice A ((vCat (quarter K)).length + (vCat (quarter M)).length) c] W (RetIE W (quarter K ++ quarter M) 0) from by have := all_any h hu (by omega); rw [hcat] at this; exact this))
  have cK2 : (vCat (quarter K)).length ≤ 800 := by omega
  have cM2 : (vCat (quarter M)).length ≤ 800 := by omega
  rw [lK] at HJ1
  rw [lM] at HJ2
  have QK := Lib.hid (fun (i : Nat) (h : i < K.length) => quarter_take h)
  have QM := Lib.hid (fun (i : Nat) (h : i < M.length) => quarter_take h)
  have fK : (quarter K).take K.length = quarter K := List.take_of_length_le (by omega)
  have fM : (quarter M).take M.length = quarter M := List.take_of_length_le (by omega)
  have FK := Lib.hid fK
  have FM := Lib.hid fM
  have LK := Lib.hid lK
  have LM := Lib.hid lM
  clear sK sM jK jM cK cM hcat fK fM lK lM
  generalize vCat (quarter K) = bk at *
  generalize vCat (quarter M) = bm at *
  generalize quarter K = qk at *
  generalize quarter M = qm at *
  go_enter Try.func7, Try.ntmps7
  go_wp2_with fail
  refine (awake_any _).mono ?_
  rintro e w1 ⟨rfl, bb⟩
  go_wp2_with fail
  go_loopg [8, 9] K.length (fun gh s8 s9 wr => ∃ (i c : Nat) (D : Option Addr), gh = K.length - i ∧ i ≤ K.length ∧ s8 = .slice D i c ∧ s9 = .int .i64 i ∧ wr.ownsRow w.heap.size 3 1 (.slice D i c) i (intCells (qk.take i)) ∧ Below w.heap.size w wr)
  case atStart => exact ⟨0, 0, none, by omega, by omega, rfl, rfl, World.ownsRow_nil _ _ _ _, bb⟩
  case round =>
    clear bb
    obtain ⟨i, d, D, hg, hi, rfl, rfl, ownD, bb⟩ := hrel
    have z0 := bb.size
    by_cases h : i < K.length
    · obtain ⟨g, o, rfl, hc⟩ := uint_cell (HA.out.below bb (Nat.le_refl _)) (by omega)
      have k1 := hc i h
      have a1 := addr_add g o i
      have hx := HK.out K[i] (List.getElem_mem h)
      have hq := Lib.hid (QK.out _ h)
      clear hc
      generalize K[i] = x at *
      go_wp2_with (at_builtin; refine wpList_append_sl _ rfl (.tmp 44) (.tmp 51) _ rfl w.heap.size 3 i0 _ 1 8 Try.underlying31 hi0 hz0 hz1 hz2 rfl (by omega) (.slice D i d) i _ rfl (own_alloc ownD _) wr.heap.size (wr.heap.size + 1) _ 1 1 _ rfl (Sl.new wr 3 _ 1 1 1 _ rfl (by omega) rfl rfl) (by intro u hu; simp at hu; subst hu; rfl) (i + 1) rfl _ rfl (by unfold maxLen; omega) (by omega) (by first | omega | (simp; omega)) ?_; intro A4 c4 w4 own4 hg4; have hb4 := grown_below (B := w.heap.size) hg4 (by first | omega | (simp; omega)) (fun k hk => (ownD.lt k hk).1))
      go_roundg (K.length - (i + 1))
      case measure => omega
      case rel => exact ⟨i + 1, c4, A4, rfl, by omega, rfl, by simp, by rw [hq.out]; exact own4, (bb.alloc z0 _).trans hb4⟩
    · obtain rfl : i = K.length := by omega
      rw [FK.out] at ownD
      have dlt : ∀ k, (Value.slice D K.length d).ownBlock = some k → k < wr.heap.size := fun k hk => (ownD.lt k hk).2
      have Dlt := Lib.hid dlt
      clear dlt
      go_wp2_with fail
      refine (HJ1.out _ _ _ _ _ (Sl.of_own ownD) (Nat.le_refl _)).mono ?_
      rintro e w2 ⟨F, cf, rfl, ownF, hbF⟩
      try simp only at ownF
      have bb2 := bb.trans (hbF.mono z0)
      have z2 := hbF.size
      have ownD2 := own_below ownD hbF (Nat.le_refl _)
      clear ownD
      go_wp2_with fail
      go_loopg [12, 13] M.length (fun gh s12 s13 wq => ∃ (i c : Nat) (D : Option Addr), gh = M.length - i ∧ i ≤ M.length ∧ s12 = .slice D i c ∧ s13 = .int .i64 i ∧ wq.ownsRow w2.heap.size 3 1 (.slice D i c) i (intCells (qm.take i)) ∧ Below w2.heap.size w2 wq)
      case atStart => exact ⟨0, 0, none, by omega, by omega, rfl, rfl, World.ownsRow_nil _ _ _ _, Below.refl _ _⟩
      case round =>
        obtain ⟨i, e, E, hg, hi, rfl, rfl, ownE, be⟩ := hrel
        have z3 := be.size
        by_cases h : i < M.length
        · obtain ⟨g, o, rfl, hc⟩ := uint_cell (HB.out.below (bb2.trans (be.mono (by omega))) (Nat.le_refl _)) (by omega)
          have k1 := hc i h
          have a1 := addr_add g o i
          have hx := HM.out M[i] (List.getElem_mem h)
          have hq := Lib.hid (QM.out _ h)
          clear hc
          generalize M[i] = x at *
          go_wp2_with (at_builtin; refine wpList_append_sl _ rfl (.tmp 64) (.tmp 71) _ rfl w2.heap.size 3 i0 _ 1 8 Try.underlying31 hi0 hz0 hz1 hz2 rfl (by omega) (.slice E i e) i _ rfl (own_alloc ownE _) wr.heap.size (wr.heap.size + 1) _ 1 1 _ rfl (Sl.new wr 3 _ 1 1 1 _ rfl (by omega) rfl rfl) (by intro u hu; simp at hu; subst hu; rfl) (i + 1) rfl _ rfl (by unfold maxLen; omega) (by omega) (by first | omega | (simp; omega)) ?_; intro A4 c4 w4 own4 hg4; have hb4 := grown_below (B := w2.heap.size) hg4 (by first | omega | (simp; omega)) (fun k hk => (ownE.lt k hk).1))
          go_roundg (M.length - (i + 1))
          case measure => omega
          case rel => exact ⟨i + 1, c4, A4, rfl, by omega, rfl, by simp, by rw [hq.out]; exact own4, (be.alloc z3 _).trans hb4⟩
        · obtain rfl : i = M.length := by omega
          rw [FM.out] at ownE
          have bb3 := bb2.trans (be.mono (by omega))
          go_wp2_with fail
          refine (HJ2.out _ _ _ _ _ (Sl.of_own ownE) (Nat.le_refl _)).mono ?_
          rintro e5 w5 ⟨G, cg, rfl, ownG, hbG⟩
          try simp only at ownG
          have bb5 := bb3.trans (hbG.mono (by omega))
          have z5 := hbG.size
          have sF := ((Sl.of_own ownF).below be (Nat.le_refl _)).below hbG z3
          have sG := Sl.of_own ownG
          have sE := (Sl.of_own ownE).below hbG (Nat.le_refl _)
          have ownD5 := own_below (own_below ownD2 be (Nat.le_refl _)) hbG (Nat.le_refl _)
          clear ownF ownG ownE ownD2
          go_wp2_with (at_builtin; first
            | (refine wpList_append_sl _ rfl (.tmp 81) (.tmp 82) _ rfl w5.heap.size 5 j0 _ 1 1 Try.underlying23 hj0 jz0 jz1 jz2 rfl (by omega) _ bk.length _ rfl own6 wr.heap.size w5.heap.size G bm.length cg _ rfl (sG.below hb6 (Nat.le_refl _)) (byteCells_one _) (bk.length + bm.length) rfl _ (byteCells_append bk bm).symm (by unfold maxLen; omega) (by omega) z6 ?_; intro A7 c7 w7 own7 hg7; have hb7 := hb6.grown hg7 z6 (fun k hk => (own6.lt k hk).1))
            | (refine wpList_append_sl _ rfl (.tmp 79) (.tmp 80) _ rfl w5.heap.size 5 j0 _ 1 1 Try.underlying23 hj0 jz0 jz1 jz2 rfl (by omega) (.slice (some ⟨w5.heap.size, 0, none⟩) 0 0) 0 [] rfl (own_made rfl (Nat.le_refl _)) _ _ F bk.length cf _ rfl (sF.alloc (by omega) _) (byteCells_one _) bk.length (by omega) _ rfl (by unfold maxLen; omega) (by omega) (by simp) ?_; intro A6 c6 w6 own6 hg6; have hb6 := ((Below.refl w5.heap.size w5).alloc (Nat.le_refl _) _).grown hg6 (by simp) (fun k hk => by simp [Value.ownBlock] at hk; omega); have z6 := hb6.size))
          have s7 := Sl.of_own own7
          have z7 := hb7.size
          have bb7 := bb5.trans (hb7.mono (by omega))
          have ownD7 := own_below ownD5 hb7 (Nat.le_refl _)
          clear sF sG own6 own7 ownD5 hb6
          refine (HA2.out _ _ _ _ _ s7 (Nat.le_refl _)).mono ?_
          rintro e8 w8 ⟨L, cL, rfl, ownL, hb8⟩
          try simp only at ownL
          have z8 := hb8.size
          have bb8 := bb7.trans (hb8.mono (by omega))
          have ownD8 := own_below ownD7 hb8 (Nat.le_refl _)
          have sE8 := (sE.below hb7 (by omega)).below hb8 (by omega)
          clear s7 sE ownD7
          go_wp2_with fail
          refine (HAll.out _ _ _ (HC.out.below bb8 (Nat.le_refl _)) bb8.size).mono ?_
          rintro e9 w9 ⟨U, cU, rfl, ownU, hb9⟩
          try simp only at ownU
          have z9 := hb9.size
          have bb9 := bb8.trans (hb9.mono (by omega))
          have ownD9 := own_below ownD8 hb9 (Nat.le_refl _)
          have sE9 := sE8.below hb9 (by omega)
          have sL9 := (Sl.of_own ownL).below hb9 (Nat.le_refl _)
          have sU9 := Sl.of_own ownU
          clear ownL ownU ownD8 sE8
          go_wp2_with fail
          refine (HAgain.out _ _ _ _ _ sU9 (Nat.le_refl _)).mono ?_
          rintro e10 w10 ⟨V, cV, rfl, ownV, hb10⟩
          try simp only at ownV
          have z10 := hb10.size
          have bb10 := bb9.trans (hb10.mono (by omega))
          have ownD10 := own_below ownD9 hb10 (Nat.le_refl _)
          have sE10 := sE9.below hb10 (by omega)
          have sL10 := sL9.below hb10 (by omega)
          have q1 := run_string_of (dst := 9) (Sl.of_own ownV) Try.underlying23 Try.underlying5 Try.underlying9
          have q2 := run_string_of (dst := 9) (HC.out.below bb10 (Nat.le_refl _)) Try.underlying23 Try.underlying5 Try.underlying9
          clear ownV ownD9 sE9 sL9 sU9
          have hap := intCells_append qk qm
          have HSame := Lib.hid (fun W lo up A n c (h : Sl W lo up 1 A n c (intCells (qk ++ qm))) (hL : Sl W w7.heap.size w8.heap.size 1 L (qk ++ qm).length cL (intCells (qk ++ qm))) hn => same_yes hL h hn)
          rcases HCS.out with ⟨rfl, rfl⟩ | ⟨rfl, rfl⟩
          all_goals
            go_wp2_with (at_builtin; go_loud (refine wpList_append_slw _ (by first | rfl | decide | simp [Region.wanted, yielded]) (.tmp 122) (.tmp 123) _ rfl w.heap.size 3 i0 _ 1 8 Try.underlying31 hi0 hz0 hz1 hz2 rfl (by omega) _ K.length _ rfl ownD10 _ _ E M.length e _ rfl sE10 (intCells_one _) (K.length + M.length) rfl _ hap.symm (by unfold maxLen; omega) (by omega) (by omega) ?_; intro A11 c11 w11 own11 hg11; have hb11 := grown_below (B := w.heap.size) hg11 (by omega) (fun k hk => (ownD10.lt k hk).1)))
          all_goals
            have sL11 := sL10.grown hg11 (by omega) (fun k hk => .inl (by have := Dlt.out k hk; omega))
            rw [List.length_append] at sL11
            refine (same_yes sL11 (Sl.of_own own11) (by have := LK.out; have := LM.out; omega)).mono ?_
            rintro e12 w12 ⟨rfl, hb12⟩
            have z11 := hb11.size
            go_wp2
            go_ret
            exact ⟨rfl, (bb10.trans hb11).trans (hb12.mono (by omega))⟩
end Go.Proofs.Ythcnahcnboalbaa
