/- The iterator over a ledger's packets, its contract. -/
import Derived.Test.YtgebebdapfnmpaaA
import Derived.RangeFuncNested
import Derived.RangeFuncBound
import Derived.RangeFuncCalls
import Derived.RangeFuncLeaves
import Derived.RangeFuncBox
import Derived.Shelf.Abstract
import Derived.Shelf.RegionOpen
import Derived.WalkKit
import Derived.OwnWalkIn
import Derived.TacticsInMore
import Derived.LoopNIn
import Derived.LoopIn
namespace Go.Proofs.Ytgebebdapfnmpaa
open Go.RowKit
set_option linter.unusedVariables false
set_option linter.unusedSimpArgs false
attribute [local go_sem] Oper.semAt_some

/-- A packet of a ledger, with the word that it is one. -/
abbrev In (M : List Pk) := { p : Pk // p ∈ M }
/-- Whether a ledger may be. -/
def pOk (l : List Pk) : Prop := pGood l ∧ l.length ≤ 300

set_option maxHeartbeats 1000000 in
theorem all_in (n : Nat) (A : Option Addr) (len cap : Nat) (w : World) :
    CallsIn Fence.wide n Try.prog 15 #[.slice A len cap] w fun e w' => e = .returned (.func (.func 20) #[] #[.pointer (some ⟨w.heap.size, 0, none⟩)]) ∧ w' = w.alloc (.cells #[.slice A len cap] 22) := by
  refine callsIn_of_wp Try.func15 rfl trivial ?_ rfl
  simp only [Try.ntmps15, List.size_toArray, List.length_cons, List.length_nil, Nat.reduceAdd, Nat.reduceSub, Array.replicate_succ, Array.replicate_zero, List.push_toArray, List.append_toArray, List.nil_append, List.cons_append]
  gi_wp2
  go_ret
  exact ⟨rfl, rfl⟩

set_option maxRecDepth 100000 in
set_option maxHeartbeats 4000000 in
theorem all1_no {α : Type} (n : Nat) (hn : 1 ≤ n) (l Bs : Nat) (J : List α → World → Prop) (W : World) (hJ : AbidesFrom W.heap.size J) {lo up c : Nat} {A : Option Addr} {k : Nat} {L : List Pk} (hs : Sl W lo up 5 A k c (pCells L)) (hup : up ≤ W.heap.size) (hk : k ≤ 9223372036854775807) (hL : pWf L)
    (hBs : W.cell? ⟨Bs, 0, none⟩ = some (.slice A k c)) (hno : ¬ pOk L) (h0 : J [] W) :
    CallsIn Fence.wide n Try.prog 20 #[.func (.yield l) #[] #[], .pointer (some ⟨Bs, 0, none⟩)] W fun e W' => (∃ v, e = .returned v) ∧ J [] W' := by
  have HC := Lib.hid ((callsIn_wide (n := n - 1)).2 (check_any hs hup hk hL false (by constructor <;> intro h; cases h; exact absurd h hno)))
  refine callsIn_of_wp Try.func20 rfl trivial ?_ rfl
  simp only [Try.ntmps20, List.size_toArray, List.length_cons, List.length_nil, Nat.reduceAdd, Nat.reduceSub, Array.replicate_succ, Array.replicate_zero, List.push_toArray, List.append_toArray, List.nil_append, List.cons_append]
  gi_wp2_with (refine ⟨trivial, ?_⟩; gi_at_call 7; refine HC.out.mono ?_; rintro e w' ⟨rfl, hb⟩)
  refine bodyPost_ret (results_none rfl _ _ _) rfl ?_
  exact ⟨⟨_, rfl⟩, hJ [] W _ none h0 (grownBy_below hb (Nat.le_refl _)) (fun r e => by cases e)⟩

set_option maxRecDepth 100000 in
set_option maxHeartbeats 8000000 in
theorem all1_yes (n : Nat) (hn : 1 ≤ n) (l Bs n₀ : Nat) {L : List Pk} (J Jx : List (In L) → World → Prop) (W : World) (hJ : AbidesFrom W.heap.size J) {lo up c : Nat} {A : Option Addr} (hs : Sl W lo up 5 A L.length c (pCells L)) (hup : up ≤ n₀) (hn₀ : n₀ ≤ W.heap.size) (hL : pWf L)
    (hBs : W.cell? ⟨Bs, 0, none⟩ = some (.slice A L.length c)) (hBl : Bs < W.heap.size) (hok : pOk L)
    (hY : ∀ pre x W, J pre W → pre.length < L.length → YieldAt Fence.wide (n - 1) Try.prog l #[x.1.val] W fun e W' =>
      (e = .returned (.bool true) ∧ J (pre ++ [x]) W' ∧ Below n₀ W W') ∨ (e = .returned (.bool false) ∧ Jx (pre ++ [x]) W'))
    (h0 : J [] W) :
    CallsIn Fence.wide n Try.prog 20 #[.func (.yield l) #[] #[], .pointer (some ⟨Bs, 0, none⟩)] W fun e W' => (∃ v, e = .returned v) ∧ ((∃ ys, ys = L.attach ∧ J ys W') ∨ (∃ pre, pre <+: L.attach ∧ Jx pre W')) := by
  have hlen : L.length ≤ 300 := hok.2
  have HC := Lib.hid ((callsIn_wide (n := n - 1)).2 (check_any hs (by omega) (by omega) hL true (by constructor <;> intro h; exact hok; rfl)))
  have HY := Lib.hid hY
  clear hY
  refine callsIn_of_wp Try.func20 rfl trivial ?_ rfl
  simp only [Try.ntmps20, List.size_toArray, List.length_cons, List.length_nil, Nat.reduceAdd, Nat.reduceSub, Array.replicate_succ, Array.replicate_zero, List.push_toArray, List.append_toArray, List.nil_append, List.cons_append]
  gi_wp2_with (refine ⟨trivial, ?_⟩; gi_at_call 7; refine HC.out.mono ?_; rintro e w1 ⟨rfl, hb⟩; have kb := (hb.cell (p := ⟨Bs, 0, none⟩) hBl).trans hBs)
  have hJ1 : J [] w1 := hJ [] W _ none h0 (grownBy_below hb (Nat.le_refl _)) (fun r e => by cases e)
  have z1 := hb.size
  gi_loopw [10] (fun i wr => ∃ k : Nat, k ≤ L.length ∧ i = .int .i64 k ∧ J (L.attach.take k) wr ∧ Below n₀ W wr ∧ W.heap.size ≤ wr.heap.size)
    (fun i _ => L.length - (intOf i).toNat)
  case atStart => exact ⟨0, Nat.zero_le _, rfl, hJ1, hb.mono hn₀, z1⟩
  case round =>
    obtain ⟨k, hk, rfl, hJs, hnx, hz⟩ := hrel
    by_cases hlt : k < L.length
    · obtain ⟨g, o, rfl, hgu, hc⟩ := slp_cell (hs.below hnx hup) (by omega)
      obtain ⟨k1, k2, k3, k4, k5⟩ := hc k hlt
      have a1 := addr_add g o (k * 5)
      have hmem : L[k] ∈ L := List.getElem_mem hlt
      have htk : L.attach.take (k + 1) = L.attach.take k ++ [⟨L[k], hmem⟩] := by
        rw [List.take_succ_eq_append_getElem (by rw [List.length_attach]; exact hlt), List.getElem_attach]
      have Htk := Lib.hid htk
      clear htk
      have HJ2 : Hid (∀ o : Obj, J (L.attach.take k) (wr.alloc o)) := Lib.hid (fun o => hJ _ wr _ none hJs (World.grownBy_alloc wr o none) (fun r e => by cases e))
      have HZ := Lib.hid (HY.out (L.attach.take k) ⟨L[k], hmem⟩ (wr.alloc (.cells #[.int .i64 L[k].no, .int .i64 L[k].ti, .int .i64 L[k].sz, .bool L[k].el, .bool L[k].pr] 27)) (HJ2.out _) (by rw [List.length_take, List.length_attach]; omega))
      obtain ⟨p, hp⟩ : ∃ p, p = L[k] := ⟨_, rfl⟩
      clear hc HY
      generalize L[k] = p0 at *
      subst hp
      obtain ⟨fn, tmps, assign, body, hy, hR⟩ := HZ.out
      obtain ⟨no, ti, sz, el, pr⟩ := p
      simp only [Pk.val] at hy k1 k2 k3 k4 k5
      gi_wp2
      refine hR.mono ?_
      rintro e W3 (⟨rfl, hJ3, hk3⟩ | ⟨rfl, hJx3⟩)
      · gi_wp2
        go_roundw
        case rel => exact ⟨k + 1, by omega, by simp, by rw [Htk.out]; exact hJ3, (hnx.alloc (by omega) _).trans hk3, by have := hk3.size; simp at this; omega⟩
        case measure => simp [intOf]; omega
      · gi_wp2
        refine bodyPost_ret (results_none rfl _ _ _) rfl ?_
        exact ⟨⟨_, rfl⟩, .inr ⟨_, by rw [← Htk.out]; exact List.take_prefix _ _, hJx3⟩⟩
    · obtain rfl : k = L.length := by omega
      rw [List.take_of_length_le (by rw [List.length_attach]; exact Nat.le_refl _)] at hJs
      gi_wp2
      go_end0
      exact ⟨⟨_, rfl⟩, .inl ⟨_, rfl, hJs⟩⟩

/-- What comes: the packets of a ledger that may be, or none. -/
theorem all_stops (n : Nat) (hn : 1 ≤ n) (Bs n₀ : Nat) {lo up c : Nat} {A : Option Addr} {k : Nat} {L M : List Pk} (w : World) (hs : Sl w lo up 5 A k c (pCells L)) (hk : k ≤ 9223372036854775807) (hup : up ≤ n₀) (hn₀ : n₀ ≤ w.heap.size) (hL : pWf L)
    (hBs : w.cell? ⟨Bs, 0, none⟩ = some (.slice A k c)) (hBl : Bs < w.heap.size) (hM : pOk L ∧ M = L ∨ ¬ pOk L ∧ M = []) :
    SeqStopsK Fence.wide n Try.prog 20 #[.pointer (some ⟨Bs, 0, none⟩)] (fun x : In M => #[x.1.val]) (Below n₀) (fun ys => ys = M.attach) (fun pre => pre <+: M.attach) M.length w := fun l J Jx W hW hJ _ hY h0 => by
  have hlen : k = L.length := by have := hs.len; rw [pCells_length] at this; omega
  subst hlen
  have hc := (hW.cell (p := ⟨Bs, 0, none⟩) hBl).trans hBs
  have hz := hW.size
  have hs' := hs.below hW (by omega)
  rcases hM with ⟨h1, rfl⟩ | ⟨h1, rfl⟩
  · exact all1_yes n hn l Bs n₀ J Jx W hJ hs' hup (by omega) hL hc (by omega) h1 hY h0
  · exact (all1_no n hn l Bs J W hJ hs' (by omega) hk hL hc h1 h0).mono fun e W' ⟨he, hj⟩ => ⟨he, .inl ⟨_, rfl, hj⟩⟩
end Go.Proofs.Ytgebebdapfnmpaa
