/- What lies in memory while GdataWhole runs. -/
import Derived.Test.YtdmohidkighajaaVl
import Derived.Test.YtdmohidkighajaaHd
import Derived.Test.YtdmohidkighajaaPs
namespace Go.Proofs.Ytdmohidkighajaa
open Go.RowKit
set_option linter.unusedVariables false
set_option linter.unusedSimpArgs false

theorem owns_own {w w' : World} {base e size : Nat} {v : Value} {n : Nat} {xs : List Value} (h : w.ownsRow base e size v n xs) (ho : ∀ k, v.ownBlock = some k → w'.heap[k]? = w.heap[k]?) : w'.ownsRow base e size v n xs := by
  refine ⟨h.1, h.2.imp id ?_⟩
  rintro ⟨g, cap, cur, rfl, h2, h3, h4⟩
  exact ⟨g, cap, cur, rfl, h2, (ho g rfl).trans h3, h4⟩

/-- The blocks that stay: the subscriber's, its glue's two, the map's, the last version's. -/
structure VFix (Bs base s g h B lb : Nat) : Prop where
  lo : Bs ≤ s ∧ Bs ≤ g ∧ Bs ≤ h ∧ Bs ≤ B ∧ Bs ≤ lb
  hi : s < base ∧ g < base ∧ h < base ∧ B < base ∧ lb < base
  sg : s ≠ g
  sh : s ≠ h
  sB : s ≠ B ∧ g ≠ B ∧ h ≠ B
  sl : s ≠ lb ∧ g ≠ lb ∧ h ≠ lb ∧ B ≠ lb

structure VW (Bs base : Nat) (w : World) (p s g h c B lb n : Nat) (M : Made) (inc : Int) (P : Pb) (G : Gl) (S : Sb) (x : Value) (went : List Fr) (li ls : Int) : Prop where
  pa : PAt w p P
  sa : SAt w s g S
  ga : GAt w g h c G
  ma : VMapAt w B M
  la : w.heap[lb]? = some (.cells #[.int .u16 li, .int .u32 ls] 34 (0, 0))
  ro : w.ownsRow base 36 19 x went.length (frCells went)
  p0 : Bs ≤ p
  pn : p ≠ s ∧ p ≠ g ∧ p ≠ h ∧ p ≠ B ∧ p ≠ lb
  bz : base ≤ w.heap.size
  inv : VInv n M inc P G S went

section
variable {Bs base : Nat} {w w' : World} {p s g h c B lb n : Nat} {M : Made} {inc : Int} {P : Pb} {G : Gl} {S : Sb} {x : Value} {went : List Fr} {li ls : Int}

theorem VW.row (k : VW Bs base w p s g h c B lb n M inc P G S x went li ls) {r : Nat} (hr : x.ownBlock = some r) : base ≤ r ∧ r < w.heap.size ∧ r ≠ p := by
  obtain ⟨_, h | ⟨g', cap, cur, rfl, h2, h3, _⟩⟩ := k.ro
  · rw [h.1] at hr; cases hr
  · have : g' = r := by simpa [Value.ownBlock] using hr
    subst this
    refine ⟨h2, blk_lt h3, fun e => ?_⟩
    have hp := k.pa
    unfold PAt at hp
    rw [e, hp] at h3
    simp at h3

theorem VMapAt.same {b : Nat} (k : VMapAt w b M) (hb : w'.heap[b]? = w.heap[b]?) : VMapAt w' b M := by
  obtain ⟨es, cl, h1, h2⟩ := k
  exact ⟨es, cl, hb.trans h1, h2⟩

theorem VW.below (k : VW Bs base w p s g h c B lb n M inc P G S x went li ls) (b : Below w.heap.size w w') : VW Bs base w' p s g h c B lb n M inc P G S x went li ls :=
  ⟨blk_below k.pa b, blk_below k.sa b, k.ga.below b, k.ma.same (b.block _ k.ma.lt), blk_below k.la b, owns_own k.ro (fun r hr => b.block r (k.row hr).2.1), k.p0, k.pn, Nat.le_trans k.bz b.size, k.inv⟩

/-- The publisher turns. -/
theorem VW.pub1 (F : VFix Bs base s g h B lb) (k : VW Bs base w p s g h c B lb n M inc P G S x went li ls) (o : Only p p w w') {P' : Pb} (pa : PAt w' p P') (inv : VInv n M inc P' G S went) : VW Bs base w' p s g h c B lb n M inc P' G S x went li ls :=
  ⟨pa, blk_only k.sa o k.pn.1.symm k.pn.1.symm, k.ga.keep o k.pn.2.1.symm k.pn.2.1.symm k.pn.2.2.1.symm k.pn.2.2.1.symm, k.ma.same (o.block _ k.ma.lt k.pn.2.2.2.1.symm k.pn.2.2.2.1.symm), blk_only k.la o k.pn.2.2.2.2.symm k.pn.2.2.2.2.symm,
    owns_own k.ro (fun r hr => o.block r (k.row hr).2.1 (k.row hr).2.2 (k.row hr).2.2), k.p0, k.pn, Nat.le_trans k.bz o.size, inv⟩

/-- The publisher commits: between its turn and the map's. -/
structure VH (Bs base : Nat) (w : World) (p s g h c B lb n : Nat) (M : Made) (P : Pb) (G : Gl) (S : Sb) (x : Value) (went : List Fr) (li ls : Int) : Prop where
  pa : PAt w p P
  sa : SAt w s g S
  ga : GAt w g h c G
  ma : VMapAt w B M
  la : w.heap[lb]? = some (.cells #[.int .u16 li, .int .u32 ls] 34 (0, 0))
  ro : w.ownsRow base 36 19 x went.length (frCells went)
  p0 : Bs ≤ p
  pn : p ≠ s ∧ p ≠ g ∧ p ≠ h ∧ p ≠ B ∧ p ≠ lb
  bz : base ≤ w.heap.size
theorem VH.row (k : VH Bs base w p s g h c B lb n M P G S x went li ls) {r : Nat} (hr : x.ownBlock = some r) : base ≤ r ∧ r < w.heap.size ∧ r ≠ p := by
  obtain ⟨_, h | ⟨g', cap, cur, rfl, h2, h3, _⟩⟩ := k.ro
  · rw [h.1] at hr; cases hr
  · have : g' = r := by simpa [Value.ownBlock] using hr
    subst this
    refine ⟨h2, blk_lt h3, fun e => ?_⟩
    have hp := k.pa
    unfold PAt at hp
    rw [e, hp] at h3
    simp at h3
theorem VW.half (F : VFix Bs base s g h B lb) (k : VW Bs base w p s g h c B lb n M inc P G S x went li ls) (o : Only p p w w') {P' : Pb} (pa : PAt w' p P') : VH Bs base w' p s g h c B lb n M P' G S x went li ls :=
  ⟨pa, blk_only k.sa o k.pn.1.symm k.pn.1.symm, k.ga.keep o k.pn.2.1.symm k.pn.2.1.symm k.pn.2.2.1.symm k.pn.2.2.1.symm, k.ma.same (o.block _ k.ma.lt k.pn.2.2.2.1.symm k.pn.2.2.2.1.symm), blk_only k.la o k.pn.2.2.2.2.symm k.pn.2.2.2.2.symm,
    owns_own k.ro (fun r hr => o.block r (k.row hr).2.1 (k.row hr).2.2 (k.row hr).2.2), k.p0, k.pn, Nat.le_trans k.bz o.size⟩
theorem VH.below (k : VH Bs base w p s g h c B lb n M P G S x went li ls) (b : Below w.heap.size w w') : VH Bs base w' p s g h c B lb n M P G S x went li ls :=
  ⟨blk_below k.pa b, blk_below k.sa b, k.ga.below b, k.ma.same (b.block _ k.ma.lt), blk_below k.la b, owns_own k.ro (fun r hr => b.block r (k.row hr).2.1), k.p0, k.pn, Nat.le_trans k.bz b.size⟩
/-- A map's turn, as 'Only'. -/
theorem grown_only {b : Nat} (gr : w.grownBy w' (some b)) : Only b b w w' := ⟨gr.os, gr.tape, gr.output, gr.size, fun j hj h1 _ => gr.block j hj (fun e => h1 (Option.some.inj e))⟩
theorem VH.map (F : VFix Bs base s g h B lb) (k : VH Bs base w p s g h c B lb n M P G S x went li ls) (gr : w.grownBy w' (some B)) {M' : Made} (ma : VMapAt w' B M') (inv : VInv n M' inc P G S went) : VW Bs base w' p s g h c B lb n M' inc P G S x went li ls := by
  have o := grown_only gr
  refine ⟨blk_only k.pa o k.pn.2.2.2.1 k.pn.2.2.2.1, blk_only k.sa o F.sB.1 F.sB.1, k.ga.keep o F.sB.2.1 F.sB.2.1 F.sB.2.2 F.sB.2.2, ma, blk_only k.la o F.sl.2.2.2.symm F.sl.2.2.2.symm,
    owns_own k.ro (fun r hr => ?_), k.p0, k.pn, Nat.le_trans k.bz o.size, inv⟩
  have := (k.row hr).1
  have := F.hi
  exact o.block r (k.row hr).2.1 (by omega) (by omega)

/-- The subscriber latches. -/
theorem VW.sub1 (F : VFix Bs base s g h B lb) (k : VW Bs base w p s g h c B lb n M inc P G S x went li ls) (o : Only s s w w') {S' : Sb} (sa : SAt w' s g S') (inv : VInv n M inc P G S' went) : VW Bs base w' p s g h c B lb n M inc P G S' x went li ls := by
  refine ⟨blk_only k.pa o k.pn.1 k.pn.1, sa, k.ga.keep o F.sg.symm F.sg.symm F.sh.symm F.sh.symm, k.ma.same (o.block _ k.ma.lt F.sB.1.symm F.sB.1.symm), blk_only k.la o F.sl.1.symm F.sl.1.symm,
    owns_own k.ro (fun r hr => ?_), k.p0, k.pn, Nat.le_trans k.bz o.size, inv⟩
  have := (k.row hr).1
  have := F.hi
  exact o.block r (k.row hr).2.1 (by omega) (by omega)

/-- A frame comes. -/
theorem VW.sub3 (F : VFix Bs base s g h B lb) (k : VW Bs base w p s g h c B lb n M inc P G S x went li ls) (t : Three s g h w w') {S' : Sb} {G' : Gl} (sa : SAt w' s g S') (ga : GAt w' g h c G') (inv : VInv n M inc P G' S' went) : VW Bs base w' p s g h c B lb n M inc P G' S' x went li ls := by
  refine ⟨(t.block p (blk_lt k.pa) k.pn.1 k.pn.2.1 k.pn.2.2.1).trans k.pa, sa, ga, k.ma.same (t.block _ k.ma.lt F.sB.1.symm F.sB.2.1.symm F.sB.2.2.symm), (t.block lb (blk_lt k.la) F.sl.1.symm F.sl.2.1.symm F.sl.2.2.1.symm).trans k.la,
    owns_own k.ro (fun r hr => ?_), k.p0, k.pn, Nat.le_trans k.bz t.size, inv⟩
  have := (k.row hr).1
  have := F.hi
  exact t.block r (k.row hr).2.1 (by omega) (by omega) (by omega)

/-- A frame goes. -/
theorem VW.goes (F : VFix Bs base s g h B lb) (k : VW Bs base w p s g h c B lb n M inc P G S x went li ls) (gr : w.grownBy w' x.ownBlock) {x' : Value} {went' : List Fr} (ro : w'.ownsRow base 36 19 x' went'.length (frCells went')) (inv : VInv n M inc P G S went') : VW Bs base w' p s g h c B lb n M inc P G S x' went' li ls := by
  have low : ∀ j, j < base → w'.heap[j]? = w.heap[j]? := fun j hj => gr.block j (Nat.lt_of_lt_of_le hj k.bz) (fun e => by have := (k.row e.symm).1; omega)
  have hh := F.hi
  have pb : w'.heap[p]? = w.heap[p]? := gr.block p (blk_lt k.pa) (fun e => (k.row e.symm).2.2 rfl)
  exact ⟨pb.trans k.pa, (low s hh.1).trans k.sa, k.ga.put ((low g hh.2.1).trans k.ga.blk) (low h hh.2.2.1) gr.size, k.ma.same (low B hh.2.2.2.1), (low lb hh.2.2.2.2).trans k.la, ro, k.p0, k.pn, Nat.le_trans k.bz gr.size, inv⟩

/-- A publisher begins anew. -/
theorem VW.anew (F : VFix Bs base s g h B lb) (k : VW Bs base w p s g h c B lb n M inc P G S x went li ls) (b : Below w.heap.size w w') (hB : Bs ≤ base) {P' : Pb} {inc' : Int} (pa : PAt w' w.heap.size P') (inv : VInv n M inc' P' G S went) : VW Bs base w' w.heap.size s g h c B lb n M inc' P' G S x went li ls := by
  have q := k.below b
  have hh := F.hi
  have hz := k.bz
  exact ⟨pa, q.sa, q.ga, q.ma, q.la, q.ro, by omega, ⟨by omega, by omega, by omega, by omega, by omega⟩, q.bz, inv⟩

/-- The last version is written. -/
theorem VW.seen (F : VFix Bs base s g h B lb) (k : VW Bs base w p s g h c B lb n M inc P G S x went li ls) (a b : Int) : VW Bs base (w.setRow lb #[.int .u16 a, .int .u32 b]) p s g h c B lb n M inc P G S x went a b ∧ Only lb lb w (w.setRow lb #[.int .u16 a, .int .u32 b]) := by
  have o : Only lb lb w (w.setRow lb #[.int .u16 a, .int .u32 b]) := ⟨rfl, rfl, rfl, by simp [World.setRow], fun j hj h1 _ => setRow_other w lb j _ h1⟩
  refine ⟨⟨blk_only k.pa o k.pn.2.2.2.2 k.pn.2.2.2.2, blk_only k.sa o F.sl.1 F.sl.1, k.ga.keep o F.sl.2.1 F.sl.2.1 F.sl.2.2.1 F.sl.2.2.1, k.ma.same (o.block _ k.ma.lt F.sl.2.2.2 F.sl.2.2.2), setRow_heap w lb _ _ _ _ k.la,
    owns_own k.ro (fun r hr => ?_), k.p0, k.pn, Nat.le_trans k.bz o.size, k.inv⟩, o⟩
  have := (k.row hr).1
  have := F.hi
  exact o.block r (k.row hr).2.1 (by omega) (by omega)
end

/-- Turns that came in. -/
def TurnsIn (W : World) (A : Option Addr) (n : Nat) : Prop := ∀ i, i < n → ∃ (b o : Nat) (q a : Int) (t : ByteArray), A = some ⟨b, o, none⟩ ∧ b < W.heap.size ∧ W.rangeAt b (o + i * 3) [.int .u8 q, .int .u16 a, .string t] ∧ (0 ≤ q ∧ q ≤ 255) ∧ (0 ≤ a ∧ a ≤ 65535)
theorem TurnsIn.below {W w : World} {A : Option Addr} {n : Nat} (h : TurnsIn W A n) (hb : Below W.heap.size W w) : TurnsIn w A n := by
  intro i hi
  obtain ⟨b, o, q, a, t, e, hlt, hr, hf⟩ := h i hi
  refine ⟨b, o, q, a, t, e, Nat.lt_of_lt_of_le hlt hb.size, fun j v hj => ?_, hf⟩
  rw [World.cell?_of_block (w := W) (hb.block _ hlt)]
  exact hr j v hj
/-- Where the loop is: the slots of the incarnation, the publisher, the frames that went. -/
def VSt (Bs base : Nat) (w : World) (s g h c B lb n k : Nat) (li ls : Int) (c8 c9 c14 : Value) (wr : World) : Prop :=
  ∃ (p : Nat) (inc : Int) (M : Made) (P : Pb) (G : Gl) (S : Sb) (went : List Fr), c8 = .int .u16 inc ∧ c9 = .pointer (some ⟨p, 0, none⟩) ∧ inc ≤ k + 1 ∧ P.ls ≤ k ∧ went.length ≤ k ∧
    li * 4294967296 + ls ≤ S.fi * 4294967296 + S.fs ∧ VW Bs base wr p s g h c B lb n M inc P G S c14 went li ls ∧ Below Bs w wr
end Go.Proofs.Ytdmohidkighajaa
