/- Frames in a row; awake. -/
import Derived.Test.YtdmohidkighajaaEq
namespace Go.Proofs.Ytdmohidkighajaa
open Go.RowKit
set_option linter.unusedVariables false
set_option linter.unusedSimpArgs false

/-- A row of frames of the call's own. -/
abbrev FrRow (w : World) (B : Nat) (x : Value) (l : List Fr) : Prop := w.ownsRow B 36 19 x l.length (frCells l)

theorem frCells_get : ∀ (l : List Fr) (i j : Nat) (f : Fr) (u : Value), l[i]? = some f → (frV f).toList[j]? = some u → (frCells l)[19 * i + j]? = some u
  | [], i, j, f, u, h, hj => by simp at h
  | a :: l, 0, j, f, u, h, hj => by
    simp at h
    subst h
    have hlt : j < 19 := (List.getElem?_eq_some_iff.1 hj).1
    show ((frV a).toList ++ frCells l)[19 * 0 + j]? = _
    rw [Nat.mul_zero, Nat.zero_add, List.getElem?_append_left (by rw [frV_len]; exact hlt)]
    exact hj
  | a :: l, i + 1, j, f, u, h, hj => by
    have := frCells_get l i j f u (by simpa using h) hj
    show ((frV a).toList ++ frCells l)[19 * (i + 1) + j]? = _
    rw [List.getElem?_append_right (by rw [frV_len]; omega), frV_len, show 19 * (i + 1) + j - 19 = 19 * i + j by omega]
    exact this

theorem FrRow.load {w : World} {B g cap n : Nat} {l : List Fr} (h : w.ownsRow B 36 19 (.slice (some ⟨g, 0, none⟩) n cap) n (frCells l)) (i : Nat) (f : Fr) (hi : l[i]? = some f) : w.rangeAt g (19 * i) (frV f).toList := by
  intro j u hj
  have := h.cells (g := g) rfl (19 * i + j) u (frCells_get l i j f u hi hj)
  rwa [Addr.add_mid, Nat.zero_add] at this

theorem below_own {w w' : World} {B e size : Nat} {v : Value} {n : Nat} {xs : List Value} (h : w.ownsRow B e size v n xs) (b : Below w.heap.size w w') : w'.ownsRow B e size v n xs := owns_kept h fun k _ hk => b.block k hk
theorem only_own {w w' : World} {B e size g h : Nat} {v : Value} {n : Nat} {xs : List Value} (o : w.ownsRow B e size v n xs) (b : Only g h w w') (hg : v.ownBlock ≠ some g) (hh : v.ownBlock ≠ some h) : w'.ownsRow B e size v n xs := by
  refine ⟨o.1, o.2.imp id ?_⟩
  rintro ⟨g', cap, cur, rfl, h2, h3, h4⟩
  exact ⟨g', cap, cur, rfl, h2, (b.block _ (Array.getElem?_eq_some_iff.1 h3).1 (fun e => hg (by rw [← e]; rfl)) (fun e => hh (by rw [← e]; rfl))).trans h3, h4⟩

/-- Put, its answer written out. -/
theorem put_t {w : World} {g h cap : Nat} {s : Gl} (k : GAt w g h cap s) (so : s.Ok) (f : Fr) (ok : FrOk f) {a : ByteArray} {b : Bool} {c : Int} {s' : Gl} (he : s.put f = (a, b, c, s')) :
    Calls Try.prog 31 #[.pointer (some ⟨g, 0, none⟩), .agg (frV f)] w fun e w' => e = .returned (.tuple #[.string a, .bool b, .int .i64 c]) ∧ GAt w' g h cap s' ∧ Only g h w w' := by
  have := put_any k so f ok
  rw [he] at this
  exact this

def awV : ByteArray := ⟨#[48, 49, 50, 51, 52, 53, 54, 55, 56, 57, 97, 98, 99, 100, 101, 102, 103, 104]⟩
def awF : Fr := { zFr with vs := 2 }
def awG : Gl := { value := List.replicate 18 0, vi := 0, vs := 0, is := false, came := 0, n := 0 }
def awF0 : Fr := awF.of awV.data.toList 2 0
def awF1 : Fr := awF.of awV.data.toList 2 1
theorem aw_split : splitL awF awV.data.toList = [awF0, awF1] := by
  have hs : awV.data.toList.length = 18 := rfl
  have hn : nParts (18 : Nat) = 2 := by rw [nParts_yes (by decide) (by decide)]; rfl
  unfold splitL
  rw [hs, hn]
  rfl
theorem awG_ok : awG.Ok := ⟨by decide, by decide, by decide +kernel⟩

def awG1 : Gl := (awG.put awF1).2.2.2
def awG2 : Gl := (awG1.put awF0).2.2.2
theorem aw_put1 : awG.put awF1 = (⟨#[]⟩, false, 0, awG1) := by
  have : (awG.put awF1).1 = ⟨#[]⟩ ∧ (awG.put awF1).2.1 = false ∧ (awG.put awF1).2.2.1 = 0 := by decide +kernel
  exact Prod.ext this.1 (Prod.ext this.2.1 (Prod.ext this.2.2 rfl))
theorem aw_put2 : awG1.put awF0 = (⟨#[48, 49, 50, 51, 52, 53, 54, 55, 56, 57, 97, 98, 99, 100, 101, 102, 103, 104]⟩, true, 0, awG2) := by
  have : (awG1.put awF0).1 = ⟨#[48, 49, 50, 51, 52, 53, 54, 55, 56, 57, 97, 98, 99, 100, 101, 102, 103, 104]⟩ ∧ (awG1.put awF0).2.1 = true ∧ (awG1.put awF0).2.2.1 = 0 := by decide +kernel
  exact Prod.ext this.1 (Prod.ext this.2.1 (Prod.ext this.2.2 rfl))
theorem awG1_ok : awG1.Ok := (put_ok awG_ok awF1).1
theorem awF0_ok : FrOk awF0 := ⟨by decide, by decide, by decide⟩
theorem awF1_ok : FrOk awF1 := ⟨by decide, by decide, by decide⟩

end Go.Proofs.Ytdmohidkighajaa
