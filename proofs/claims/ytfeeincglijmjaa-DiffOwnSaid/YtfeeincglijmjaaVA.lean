/- The walks of bytes.Clone, varint.Size and the document's Size; the law of append of zeros onto an owned row. -/
import Derived.Test.YtfeeincglijmjaaProg
import Derived.Test.YtfeeincglijmjaaLib
import Derived.Deep.RegionHeld3
import Derived.Deep.DrawnRows
import Derived.Lib.AppendZerosOnto
import Derived.Handy
namespace Go.Proofs.Ytfeeincglijmjaa
open Go.RowKit
set_option linter.unusedVariables false
attribute [local go_sem ↓] Go.wp_at_zero Go.wp_at_succ

theorem info5 : (Try.prog.info? 5).map (fun i => (i.zero, i.size, i.bytes)) = some (some (.int .u8 0), 1, 1) := by kernel_rfl

/-- What a slice of bytes of the callee's own is handed back as. -/
def RetB (w : World) (l : List UInt8) (e : Ending) (w' : World) : Prop :=
  ∃ A c, e = .returned (.slice A l.length c) ∧ w'.ownsRow w.heap.size 5 1 (.slice A l.length c) l.length (byteCells l) ∧ Below w.heap.size w w'

theorem clone_any {lo up : Nat} {A : Option Addr} {n c : Nat} {l : List UInt8} {w : World} (hr : Sl w lo up 1 A n c (byteCells l)) (hup : up ≤ w.heap.size) (hn : n ≤ 140737488355328) :
    Calls Try.prog 48 #[.slice A n c] w (RetB w l) := by
  have hl : n = l.length := by have := hr.len; rw [byteCells_length] at this; omega
  obtain ⟨i0, hi0, hz0, hz1, hz2⟩ := info_parts info5
  rcases A with _ | ad
  · have hc := hr.nil rfl
    have hle := hr.le
    obtain rfl : c = 0 := hc
    obtain rfl : n = 0 := by omega
    obtain rfl : l = [] := List.eq_nil_of_length_eq_zero hl.symm
    have q : ∀ (w : World), (binOp .eql 23 (.slice none 0 0) (.slice none 0 0)).run Try.prog w = .ok (.bool true) w := fun w => Lib.run_eql_slice_nil w _ _ none 0 0 0 0 Try.underlying23
    clear hl hle hn hi0 hz0 hz1 hz2 hr hup
    go_enter Try.func48, Try.ntmps48
    go_wp2
    go_ret
    exact ⟨none, 0, rfl, World.ownsRow_nil _ _ _ _, Below.refl _ _⟩
  · subst hl
    have q : ∀ (w : World), (binOp .eql 23 (.slice (some ad) l.length c) (.slice none 0 0)).run Try.prog w = .ok (.bool false) w := fun w => Lib.run_eql_slice_nil w _ _ (some ad) l.length c 0 0 Try.underlying23
    go_enter Try.func48, Try.ntmps48
    go_wp2_with (at_builtin; refine wpList_append_sl _ rfl (.tmp 5) (.tmp 6) _ rfl w.heap.size 5 i0 _ 1 1 Try.underlying23 hi0 hz0 hz1 hz2 rfl (by omega) (.slice (some ⟨w.heap.size, 0, none⟩) 0 0) 0 [] rfl (own_made rfl (Nat.le_refl _)) lo up _ l.length c _ rfl (hr.alloc hup _) (byteCells_one l) l.length (by omega) _ rfl (by unfold maxLen; omega) (by omega) (by simp) ?_; intro A' c' w' hown hg)
    go_ret
    exact ⟨A', c', rfl, hown, ((Below.refl _ _).alloc (Nat.le_refl _) _).grown hg (by simp) (fun k hk => by simp [Value.ownBlock] at hk; omega)⟩

/-- A number's size. -/
def vSize (x : Int) : Nat := if x < 0 ∨ 4611686018427387904 ≤ x then 0 else if x < 64 then 1 else if x < 16384 then 2 else if x < 1073741824 then 4 else 8

theorem size_any {x : Int} {w : World} (hx : -9223372036854775808 ≤ x ∧ x ≤ 9223372036854775807) : Calls Try.prog 104 #[.int .i64 x] w fun e w' => e = .returned (.int .i64 (vSize x : Int)) ∧ w' = w := by
  unfold vSize
  by_cases h0 : x < 0
  · rw [if_pos (.inl h0)]
    go_enter Try.func104, Try.ntmps104
    go_wp2
    go_ret
    exact ⟨rfl, rfl⟩
  by_cases h4 : 4611686018427387904 ≤ x
  · rw [if_pos (.inr h4)]
    have d1 : (x / 64 == 0) = false := by simp; omega
    have d2 : (x / 16384 == 0) = false := by simp; omega
    have d3 : (x / 1073741824 == 0) = false := by simp; omega
    have d4 : (x / 4611686018427387904 == 0) = false := by simp; omega
    go_enter Try.func104, Try.ntmps104
    go_wp2
    go_rounds 5
    go_ret
    exact ⟨rfl, rfl⟩
  rw [if_neg (by omega)]
  by_cases h1 : x < 64
  · rw [if_pos h1]
    have d1 : x / 64 = 0 := by omega
    go_enter Try.func104, Try.ntmps104
    go_wp2
    go_rounds 5
    go_ret
    exact ⟨rfl, rfl⟩
  rw [if_neg h1]
  have d1 : (x / 64 == 0) = false := by simp; omega
  by_cases h2 : x < 16384
  · rw [if_pos h2]
    have d2 : x / 16384 = 0 := by omega
    go_enter Try.func104, Try.ntmps104
    go_wp2
    go_rounds 5
    go_ret
    exact ⟨rfl, rfl⟩
  rw [if_neg h2]
  have d2 : (x / 16384 == 0) = false := by simp; omega
  by_cases h3 : x < 1073741824
  · rw [if_pos h3]
    have d3 : x / 1073741824 = 0 := by omega
    go_enter Try.func104, Try.ntmps104
    go_wp2
    go_rounds 5
    go_ret
    exact ⟨rfl, rfl⟩
  rw [if_neg h3]
  have d3 : (x / 1073741824 == 0) = false := by simp; omega
  have d4 : x / 4611686018427387904 = 0 := by omega
  go_enter Try.func104, Try.ntmps104
  go_wp2
  go_rounds 5
  go_ret
  exact ⟨rfl, rfl⟩

theorem rsize_any {x : Int} {w : World} : Calls Try.prog 95 #[.int .i64 x] w fun e w' => e = .returned (.int .i64 (vSize x : Int)) ∧ w' = w := by
  unfold vSize
  by_cases h0 : x < 0 ∨ 4611686018427387904 ≤ x
  · rw [if_pos h0]
    by_cases h1 : x < 0
    · go_enter Try.func95, Try.ntmps95
      go_wp2
      go_ret
      exact ⟨rfl, rfl⟩
    · have h2 : 4611686018427387904 ≤ x := by omega
      go_enter Try.func95, Try.ntmps95
      go_wp2
      go_ret
      exact ⟨rfl, rfl⟩
  rw [if_neg h0]
  have h01 : ¬ x < 0 := by omega
  have h02 : ¬ 4611686018427387904 ≤ x := by omega
  clear h0
  by_cases h1 : x < 64
  · rw [if_pos h1]
    go_enter Try.func95, Try.ntmps95
    go_wp2
    go_ret
    exact ⟨rfl, rfl⟩
  rw [if_neg h1]
  by_cases h2 : x < 16384
  · rw [if_pos h2]
    go_enter Try.func95, Try.ntmps95
    go_wp2
    go_ret
    exact ⟨rfl, rfl⟩
  rw [if_neg h2]
  by_cases h3 : x < 1073741824
  · rw [if_pos h3]
    go_enter Try.func95, Try.ntmps95
    go_wp2
    go_ret
    exact ⟨rfl, rfl⟩
  rw [if_neg h3]
  go_enter Try.func95, Try.ntmps95
  go_wp2
  go_ret
  exact ⟨rfl, rfl⟩

theorem zeroCells_one (z : Value) (k : Nat) (hz : z.cells = #[z]) : (Builtin.zeroCells z.cells k).toList = List.replicate k z := by
  rw [hz]
  apply List.ext_getElem
  · simp [Builtin.zeroCells]
  · intro i h1 h2
    simp [Builtin.zeroCells, Nat.mod_one]

/-- `append(s, make([]T, k)...)` onto an owned row, elements of one cell: the row's block afterwards, whole. -/
theorem run_append_zeros_own {P : Program} (w : World) (base : Nat) (t tn ty e : TypeId) (i : TypeInfo) (z : Value) (kq kn : IntKind) (ht : P.underlying t = some (.slice e)) (htn : P.underlying tn = some (.int kn))
    (hi : P.info? e = some i) (hz : i.zero = some z) (hsize : i.size = 1) (hby : i.bytes = 1) (hzs : z.cells = #[z]) (h1 : z.oneCell' = true)
    (v : Value) (n : Nat) (xs : List Value) (hown : w.ownsRow base e 1 v n xs) (k : Nat) (h0 : 0 < k) (hfit : n + k ≤ 140737488355328) (hbase : base ≤ w.heap.size) :
    ∃ g c' w' cur tail, (Builtin.append_ #[t, tn] ty #[v, .int kq k]).run P w = .ok (.slice (some ⟨g, 0, none⟩) (n + k) c') w' ∧ Blk w' g e cur ∧ cur.toList = xs ++ List.replicate k z ++ tail ∧ n + k ≤ c' ∧ c' ≤ maxLen ∧ cur.size = c' ∧ base ≤ g ∧ w.grownBy w' v.ownBlock := by
  have hw : IntKind.i64.wrap (k : Int) = k := by rw [IntKind.wrap_i64]; omega
  have hneg : ¬ ((k : Int) < 0) := by omega
  have hk0 : k ≠ 0 := by omega
  have hm63 : n + k ≤ maxLen := by unfold maxLen; omega
  have grow : ∀ (A : Option Addr) (cap : Nat), v = .slice A n cap → cap < n + k → (Builtin.firstCells i.size n (.slice A n cap)).run P w.drew = .ok xs.toArray w.drew →
      ∃ g c' w' cur tail, (Builtin.append_ #[t, tn] ty #[v, .int kq k]).run P w = .ok (.slice (some ⟨g, 0, none⟩) (n + k) c') w' ∧ Blk w' g e cur ∧ cur.toList = xs ++ List.replicate k z ++ tail ∧ n + k ≤ c' ∧ c' ≤ maxLen ∧ cur.size = c' ∧ base ≤ g ∧ w.grownBy w' v.ownBlock := by
    rintro A cap rfl hc hold
    have hnx := nextslicecap_le hc
    have hge := grownCap_ge w (n + k) cap e
    have hr := Lib.run_append_grow_zeros (P := P) w t tn ty e i z kq kn ht htn hi hz A n cap xs hold k h0 (by omega) hc (by omega) (by rw [hby]; omega) (by rw [hby]; omega)
    have hl1 : xs.length = n := by simpa using hown.1
    refine ⟨w.heap.size, _, _, _, List.replicate (grownCap w (n + k) cap e - (n + k)) z, hr, heap_alloc_new w.drew _, ?_, hge, grownCap_le_maxLen w (n + k) cap e hm63, ?_, hbase, ⟨rfl, rfl, rfl, by simp, fun j hj _ => Below.heap_alloc w.drew _ j hj⟩⟩
    · simp only [Array.toList_append, zeroCells_one z _ hzs]
    · simp [Builtin.zeroCells, hzs, hl1]
      omega
  rcases hown.2 with ⟨rfl, rfl⟩ | ⟨g, cap, cur, rfl, hbg, hg, hnc, hcm, hcs, htake⟩
  · have hx : xs = [] := List.eq_nil_of_length_eq_zero (by simpa using hown.1)
    subst hx
    exact grow none 0 rfl (by omega) (run_firstCells_none w.drew _ _ _ _)
  · by_cases hroom : n + k ≤ cap
    · have hst := run_storeCells_at P g n e (List.replicate k z) 0 cur w hg (by simp; omega) (by intro u hu; rw [(List.mem_replicate.1 hu).2]; exact h1)
      simp only [Nat.add_zero] at hst
      have hzc : (Builtin.zeroCells z.cells k).toList = List.replicate k z := zeroCells_one z k hzs
      have hb48 : ¬ (281474976710656 < (k : Int)) := by omega
      refine ⟨g, cap, _, (cur.toList.take n ++ List.replicate k z ++ cur.toList.drop (n + k)).toArray, cur.toList.drop (n + k), ?_, setRow_heap w g cur _ e _ hg, ?_, hroom, hcm, ?_, hbg, ⟨rfl, rfl, rfl, by simp, fun k _ hk => setRow_other w g k _ (fun e => hk (by simp [Value.ownBlock, e]))⟩⟩
      · simp [Builtin.append_, run_underlying ht, run_underlying htn, sizeOf, typeInfo, zeroValue, hi, hz, asInt, asIntOf, hw, hneg, hk0, hroom, hsize, hby, hb48, Addr.add_lit, hzc, hst]
      · simp only [Nat.mul_one] at htake
        rw [htake]
      · simp
        omega
    · have hold := run_firstCells_some (P := P) w.drew i.size n ⟨g, 0, none⟩ n cap xs (by rw [hown.1, hsize]) (fun j u hu => hown.cells (g := g) rfl j u hu)
      exact grow _ cap rfl (by omega) hold
end Go.Proofs.Ytfeeincglijmjaa
