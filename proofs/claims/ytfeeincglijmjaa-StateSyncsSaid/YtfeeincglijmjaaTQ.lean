/- What the walk of StateSyncs keeps: rows that no write reaches. -/
import Derived.Test.YtfeeincglijmjaaTP
import Derived.Test.YtfeeincglijmjaaLift5
namespace Go.Proofs.Ytfeeincglijmjaa
open Go.RowKit
set_option linter.unusedVariables false
set_option linter.unusedSimpArgs false
attribute [local go_sem ↓] Go.wp_at_zero Go.wp_at_succ

set_option maxHeartbeats 4000000 in
set_option maxRecDepth 100000 in
theorem acked_lo {up : Nat} {A : Option Addr} {n c : Nat} {l : List Shn} {z : Int} {w : World} (hr : Shs w up A n c l) (hup : up ≤ w.heap.size) (hn : n ≤ 9223372036854775807) :
    Calls Try.prog 21 #[.slice A n c, .int .i64 z] w (RetSx w (dAcked (l.map Shn.p) z) (fun lo => lo ≤ w.heap.size)) := by
  have HCk := Lib.hid (scheck_any hr hup hn)
  have HF := Lib.hid (fun W (b : Below w.heap.size w W) => find_any (k := z) (hr.below b hup) (Nat.le_trans hup b.size) hn)
  have hlen := hr.len
  subst hlen
  cases hck : sCheck (l.map Shn.p)
  · have hf : dAcked (l.map Shn.p) z = [] := by unfold dAcked; rw [if_neg (by rw [hck]; decide)]
    rw [hf]
    rw [hck] at HCk
    clear hf hck HF hr
    go_enter Try.func21, Try.ntmps21
    go_wp2_with fail
    refine HCk.out.mono ?_
    rintro e w1 ⟨rfl, b1⟩
    have F := Lib.hid (RetSx.nil0 w w1 (fun lo => lo ≤ w.heap.size) b1)
    go_wp2_with fail
    go_ret
    exact F.out
  rw [hck] at HCk
  obtain ⟨hl0, hl8, hmem⟩ := sCheck_parts hck
  have hb := sFind_bound z (l.map Shn.p)
  rw [List.length_map] at hl0 hl8 hb
  obtain ⟨k, hk⟩ : ∃ k : Nat, max (sFind z (l.map Shn.p)) 0 = k := ⟨(max (sFind z (l.map Shn.p)) 0).toNat, by omega⟩
  have hkl : k < l.length := by
    rcases hb with hb | hb
    · omega
    · rw [List.map_eq_nil_iff] at hb; subst hb; exact absurd hl0 (by decide)
  have hf : dAcked (l.map Shn.p) z = (l.drop k).map Shn.p := by unfold dAcked; rw [if_pos hck, hk, List.map_drop]; rfl
  rw [hf]
  obtain ⟨A', hcut, hs⟩ := hr.cut k (l.length - k) k rfl (by omega)
  have HO := Lib.hid (fun W (b : Below w.heap.size w W) => own_any (hs.below b hup) (Nat.le_trans hup b.size) (by omega) (fun y hy => (hmem y.p (List.mem_map_of_mem (List.mem_of_mem_drop hy))).2.2))
  have HB2 := Lib.hid (show (sFind z (l.map Shn.p) = -1 ∧ k = 0) ∨ sFind z (l.map Shn.p) = (k : Int) by
    rcases hb with hb | hb
    · omega
    · rw [List.map_eq_nil_iff] at hb; subst hb; exact absurd hl0 (by decide))
  clear hf hck hr hs hmem hb
  generalize sFind z (l.map Shn.p) = r at *
  generalize (l.drop k).map Shn.p = P at *
  go_enter Try.func21, Try.ntmps21
  go_wp2_with fail
  refine HCk.out.mono ?_
  rintro e w1 ⟨rfl, b1⟩
  clear HCk
  go_wp2_with fail
  refine (HF.out _ b1).mono ?_
  rintro e w2 ⟨rfl, b2⟩
  have bb2 := b1.trans (b2.mono b1.size)
  clear b2 b1 HF
  rcases HB2.out with ⟨rfl, rfl⟩ | rfl
  · have hcut0 : ∀ w', (Instr.slice 25 (.slice A l.length c) (some (.int .i64 0)) none none).run Try.prog w' = .ok (.slice A' (l.length - 0) (c - 0)) w' := hcut
    clear hk hcut
    go_wp2_with fail
    refine (HO.out _ bb2).mono ?_
    rintro e w3 h3
    have F := Lib.hid ((h3.sx (L := fun lo => lo ≤ w.heap.size) (fun lo h => Nat.le_trans h bb2.size)).from bb2 (fun lo h => h))
    obtain ⟨A3, c3, K3, rfl, -⟩ := h3
    clear HO
    go_wp2_with fail
    go_ret
    exact F.out
  · have hk0 : ¬ ((k : Int) < 0) := by omega
    clear hk
    go_wp2_with fail
    refine (HO.out _ bb2).mono ?_
    rintro e w3 h3
    have F := Lib.hid ((h3.sx (L := fun lo => lo ≤ w.heap.size) (fun lo h => Nat.le_trans h bb2.size)).from bb2 (fun lo h => h))
    obtain ⟨A3, c3, K3, rfl, -⟩ := h3
    clear HO
    go_wp2_with fail
    go_ret
    exact F.out

/-- Nothing but the blocks of S is written. -/
def Chg (w w' : World) (S : Nat → Prop) : Prop := w.heap.size ≤ w'.heap.size ∧ ∀ k, k < w.heap.size → ¬ S k → w'.heap[k]? = w.heap[k]?
theorem Chg.refl (w : World) (S : Nat → Prop) : Chg w w S := ⟨Nat.le_refl _, fun _ _ _ => rfl⟩
theorem Chg.trans {a b c : World} {S : Nat → Prop} (h : Chg a b S) (k : Chg b c S) : Chg a c S :=
  ⟨Nat.le_trans h.1 k.1, fun i hi hs => (k.2 i (Nat.lt_of_lt_of_le hi h.1) hs).trans (h.2 i hi hs)⟩
theorem Chg.mono {a b : World} {S T : Nat → Prop} (h : Chg a b S) (hs : ∀ k, S k → T k) : Chg a b T := ⟨h.1, fun i hi ht => h.2 i hi (fun h => ht (hs i h))⟩
theorem Chg.below {w w' : World} {S : Nat → Prop} (h : Below w.heap.size w w') : Chg w w' S := ⟨h.size, fun k hk _ => h.block k hk⟩
theorem Chg.grown {w w' : World} {row : Option Nat} {S : Nat → Prop} (h : w.grownBy w' row) (hs : ∀ g, row = some g → S g) : Chg w w' S :=
  ⟨h.size, fun k hk hn => h.block k hk (fun e => hn (hs k e.symm))⟩
theorem Sl.chg {w w' : World} {lo hi s n c : Nat} {A : Option Addr} {xs : List Value} {S : Nat → Prop} (h : Sl w lo hi s A n c xs) (hc : Chg w w' S) (hB : hi ≤ w.heap.size) (hs : ∀ g, S g → g < lo ∨ hi ≤ g) : Sl w' lo hi s A n c xs :=
  h.keep fun p h1 hp => World.cell?_of_block (hc.2 p.block (by omega) (fun e => by have := hs _ e; omega))
theorem ScrAt.chg {w w' : World} {lo up : Nat} {s : Scr} {C : Option Addr} {cc : Nat} {M : Option Addr} {cm : Nat} {S : Nat → Prop} (h : ScrAt w lo up s C cc M cm) (hc : Chg w w' S) (hB : up ≤ w.heap.size) (hs : ∀ g, S g → g < lo ∨ up ≤ g) : ScrAt w' lo up s C cc M cm :=
  ⟨h.c.chg hc hB hs, h.m.chg hc hB hs⟩
/-- A reading that stays where nothing below its bound is written. -/
structure Good (X : World → Nat → Prop) : Prop where
  more : ∀ {W up up'}, X W up → up ≤ up' → X W up'
  kept : ∀ {W W' up S}, X W up → Chg W W' S → up ≤ W.heap.size → (∀ k, S k → up ≤ k) → X W' up
/-- A reading that no write to the blocks of S reaches. -/
def Sep (wr : World) (S : Nat → Prop) (X : World → Nat → Prop) : Prop := ∀ W, Chg wr W S → X W wr.heap.size
theorem Sep.now {wr : World} {S : Nat → Prop} {X : World → Nat → Prop} (h : Sep wr S X) : X wr wr.heap.size := h wr (Chg.refl _ _)
theorem Sep.chg {wr w2 : World} {S : Nat → Prop} {X : World → Nat → Prop} (G : Good X) (h : Sep wr S X) (hc : Chg wr w2 S) : Sep w2 S X :=
  fun W hW => G.more (h W (hc.trans hW)) hc.1
theorem Sep.below {wr w2 : World} {S : Nat → Prop} {X : World → Nat → Prop} (G : Good X) (h : Sep wr S X) (hb : Below wr.heap.size wr w2) : Sep w2 S X := h.chg G (Chg.below hb)
/-- S may be another one, whose blocks are those of S, or new. -/
theorem Sep.other {wr w2 : World} {S T : Nat → Prop} {X : World → Nat → Prop} (G : Good X) (h : Sep wr S X) (hc : Chg wr w2 S) (hT : ∀ k, T k → S k ∨ wr.heap.size ≤ k) : Sep w2 T X := by
  intro W hW
  have h1 := h.chg G hc
  -- a world between: what W is, but for the new blocks
  have : X w2 wr.heap.size := h w2 hc
  exact G.more (h W ⟨Nat.le_trans hc.1 hW.1, fun k hk hs => ((hW.2 k (Nat.lt_of_lt_of_le hk hc.1) (fun ht => (hT k ht).elim hs (fun h => absurd hk (by omega))))).trans (hc.2 k hk hs)⟩) hc.1
theorem good_ok (x : Shn) : Good (fun W up => Shn.Ok W up x) :=
  ⟨fun h hu => h.more hu, fun h hc hu hs => ⟨h.1.chg hc hu (fun g hg => .inr (hs g hg)), h.2⟩⟩
theorem good_shs (A : Option Addr) (n c : Nat) (K : List Shn) : Good (fun W up => Shs W up A n c K) :=
  ⟨fun h hu => h.more hu, fun h hc hu hs => ⟨h.sl.chg hc hu (fun g hg => .inr (hs g hg)), fun x hx => (good_ok x).kept (h.ok x hx) hc hu hs⟩⟩
theorem good_all (K : List Shn) : Good (fun W up => ∀ x ∈ K, Shn.Ok W up x) :=
  ⟨fun h hu x hx => (h x hx).more hu, fun h hc hu hs x hx => (good_ok x).kept (h x hx) hc hu hs⟩
/-- What a callee made is not reached. -/
theorem sep_fresh {w w9 : World} {A : Option Addr} {c : Nat} {K : List Shn} {S : Nat → Prop} (own : w9.ownsRow w.heap.size 39 17 (.slice A K.length c) K.length (shCells K)) (ok : ∀ x ∈ K, Shn.Ok w9 w9.heap.size x) (lo : ∀ x ∈ K, x.Lo w9 w.heap.size) (hS : ∀ g, S g → g < w.heap.size) : Sep w9 S (fun W up => Shs W up A K.length c K) := by
  intro W hW
  refine ⟨((Sl.of_own own).chg hW (Nat.le_refl _) (fun g hg => .inl (hS g hg))).more (Nat.zero_le _) (Nat.le_refl _), fun x hx => ⟨((lo x hx).chg hW (Nat.le_refl _) (fun g hg => .inl (hS g hg))).more (Nat.zero_le _) (Nat.le_refl _), (ok x hx).2⟩⟩
/-- The blocks that the law itself writes: that of all, the box of parts. -/
def SB (Aa : Option Addr) (na ca gP : Nat) (k : Nat) : Prop := Value.ownBlock (.slice Aa na ca) = some k ∨ k = gP
/-- What stands at a round's head. -/
structure SyI (w wr : World) (gP : Nat) (Am : Option Addr) (cm : Nat) (Km : List Shn) (Ac : Option Addr) (cc : Nat) (Kc : List Shn) (Aa : Option Addr) (ca : Nat) (Ka : List Shn) (p : Int × Int × List (List UInt8)) : Prop where
  m : Sep wr (SB Aa Ka.length ca gP) (fun W up => Shs W up Am Km.length cm Km)
  c : Sep wr (SB Aa Ka.length ca gP) (fun W up => Shs W up Ac Kc.length cc Kc)
  a : wr.ownsRow w.heap.size 39 17 (.slice Aa Ka.length ca) Ka.length (shCells Ka)
  e : Sep wr (SB Aa Ka.length ca gP) (fun W up => ∀ x ∈ Ka, Shn.Ok W up x)
  p : PBox wr w.heap.size gP p
  b : Below w.heap.size w wr
  g : w.heap.size ≤ gP
section
variable {w wr W : World} {gP : Nat} {Am : Option Addr} {cm : Nat} {Km : List Shn} {Ac : Option Addr} {cc : Nat} {Kc : List Shn} {Aa : Option Addr} {ca : Nat} {Ka : List Shn} {p : Int × Int × List (List UInt8)}
theorem SyI.sb (h : SyI w wr gP Am cm Km Ac cc Kc Aa ca Ka p) : ∀ g, SB Aa Ka.length ca gP g → g < wr.heap.size := fun g hg => by
  rcases hg with hg | rfl
  · exact (h.a.lt g hg).2
  · exact h.p.lt
theorem SyI.below (h : SyI w wr gP Am cm Km Ac cc Kc Aa ca Ka p) (hb : Below wr.heap.size wr W) : SyI w W gP Am cm Km Ac cc Kc Aa ca Ka p :=
  ⟨h.m.below (good_shs _ _ _ _) hb, h.c.below (good_shs _ _ _ _) hb, own_below h.a hb (Nat.le_refl _), h.e.below (good_all _) hb, h.p.below hb (Nat.le_refl _), h.b.trans (hb.mono h.b.size), h.g⟩
theorem SyI.setm {Am' : Option Addr} {cm' : Nat} {Km' : List Shn} (h : SyI w wr gP Am cm Km Ac cc Kc Aa ca Ka p) (hb : Below wr.heap.size wr W) (own : W.ownsRow wr.heap.size 39 17 (.slice Am' Km'.length cm') Km'.length (shCells Km')) (ok : ∀ x ∈ Km', Shn.Ok W W.heap.size x) (lo : ∀ x ∈ Km', x.Lo W wr.heap.size) : SyI w W gP Am' cm' Km' Ac cc Kc Aa ca Ka p :=
  { h.below hb with m := sep_fresh own ok lo h.sb }
theorem SyI.setc {Ac' : Option Addr} {cc' : Nat} {Kc' : List Shn} (h : SyI w wr gP Am cm Km Ac cc Kc Aa ca Ka p) (hb : Below wr.heap.size wr W) (own : W.ownsRow wr.heap.size 39 17 (.slice Ac' Kc'.length cc') Kc'.length (shCells Kc')) (ok : ∀ x ∈ Kc', Shn.Ok W W.heap.size x) (lo : ∀ x ∈ Kc', x.Lo W wr.heap.size) : SyI w W gP Am cm Km Ac' cc' Kc' Aa ca Ka p :=
  { h.below hb with c := sep_fresh own ok lo h.sb }
/-- The box of parts is written. -/
theorem SyI.box {q : Int × Int × List (List UInt8)} {A : Option Addr} {c lo : Nat} {vs : List Value} {cs : Array Value} (h : SyI w wr gP Am cm Km Ac cc Kc Aa ca Ka p) (hP : Blk wr gP 31 cs) (hg : wr.grownBy W (some gP)) (k : Blk W gP 31 #[.int .i64 q.1, .int .i64 q.2.1, .slice A q.2.2.length c]) (o : wr.ownsRow lo 23 1 (.slice A q.2.2.length c) q.2.2.length vs) (b : Bs wr lo vs q.2.2) (hlo : w.heap.size ≤ lo) : SyI w W gP Am cm Km Ac cc Kc Aa ca Ka q := by
  have hc : Chg wr W (SB Aa Ka.length ca gP) := Chg.grown hg (fun g e => .inr (by injection e with e; exact e.symm))
  exact ⟨h.m.chg (good_shs _ _ _ _) hc, h.c.chg (good_shs _ _ _ _) hc, own_grBlk h.a hP (by decide) hg, h.e.chg (good_all _) hc, ⟨A, c, vs, k, own_more (own_grBlk o hP (by decide) hg) hlo, (b.grBlk hP (by decide) hg).more hlo⟩, h.b.grown hg h.b.size (fun k e => by cases e; exact h.g), h.g⟩
/-- One more is appended to all. -/
theorem SyI.app {Aa' : Option Addr} {ca' : Nat} {x : Shn} (h : SyI w wr gP Am cm Km Ac cc Kc Aa ca Ka p) (hx : x ∈ Km) (o : W.ownsRow w.heap.size 39 17 (.slice Aa' (Ka ++ [x]).length ca') (Ka ++ [x]).length (shCells (Ka ++ [x]))) (hg : wr.grownBy W (Value.ownBlock (.slice Aa Ka.length ca))) (hb : Value.ownBlock (.slice Aa' (Ka ++ [x]).length ca') = Value.ownBlock (.slice Aa Ka.length ca) ∨ Value.ownBlock (.slice Aa' (Ka ++ [x]).length ca') = some wr.heap.size) : SyI w W gP Am cm Km Ac cc Kc Aa' ca' (Ka ++ [x]) p := by
  have hc : Chg wr W (SB Aa Ka.length ca gP) := Chg.grown hg (fun g e => .inl e)
  have hT : ∀ k, SB Aa' (Ka ++ [x]).length ca' gP k → SB Aa Ka.length ca gP k ∨ wr.heap.size ≤ k := fun k hk => by
    rcases hk with hk | rfl
    · rcases hb with hb | hb
      · exact .inl (.inl (by rw [← hb]; exact hk))
      · rw [hb] at hk
        injection hk with hk
        exact .inr (by omega)
    · exact .inl (.inr rfl)
  have hm := h.m.other (T := SB Aa' (Ka ++ [x]).length ca' gP) (good_shs _ _ _ _) hc hT
  have he := h.e.other (T := SB Aa' (Ka ++ [x]).length ca' gP) (good_all _) hc hT
  refine ⟨hm, h.c.other (good_shs _ _ _ _) hc hT, o, fun W' hW y hy => ?_, ?_, h.b.grown hg h.b.size (fun k e => (h.a.lt k e).1), h.g⟩
  · rw [List.mem_append, List.mem_singleton] at hy
    rcases hy with hy | rfl
    · exact he W' hW y hy
    · exact (hm W' hW).ok y hx
  · obtain ⟨A, c, vs, h1, h2, h3⟩ := h.p
    exact ⟨A, c, vs, h1.grown hg (fun e => by
      have := h.a
      rcases this.2 with ⟨e1, _⟩ | ⟨g, cap, cur, hv, _, hh, _⟩
      · rw [e1] at e; cases e
      · rw [hv] at e
        simp only [Value.ownBlock, Option.some.injEq] at e
        subst e
        unfold Blk at h1
        rw [hh] at h1
        injection h1 with h1
        injection h1 with _ ht
        exact absurd ht (by decide)), own_apart h2 h.a (by decide) hg, h3.apart h.a (by decide) hg⟩
end
end Go.Proofs.Ytfeeincglijmjaa
