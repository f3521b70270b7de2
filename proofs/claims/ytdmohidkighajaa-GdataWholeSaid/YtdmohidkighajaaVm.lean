/- A map[api.Version]string that the call has made: written at new keys alone, looked up with 'ok'. -/
import Derived.Test.YtdmohidkighajaaMc
import Derived.Maps.OwnOps
namespace Go.Proofs.Ytdmohidkighajaa
open Go.RowKit
set_option linter.unusedVariables false
set_option linter.unusedSimpArgs false

def kv (i s : Int) : Value := .agg #[.int .u16 i, .int .u32 s]

/-- The entries: version, value. -/
abbrev Made := List ((Int × Int) × ByteArray)

def Made.look (M : Made) (i s : Int) : Option ByteArray := (M.find? (fun x => x.1.1 == i && x.1.2 == s)).map (·.2)

theorem Made.look_push_new (M : Made) (i s : Int) (v : ByteArray) (h : M.look i s = none) : (M ++ [((i, s), v)] : Made).look i s = some v := by
  unfold Made.look at *
  simp only [Option.map_eq_none_iff] at h
  simp [List.find?_append, h]

theorem Made.look_push_old (M : Made) (i s : Int) (v : ByteArray) {a b : Int} {x : ByteArray} (h : M.look a b = some x) : (M ++ [((i, s), v)] : Made).look a b = some x := by
  unfold Made.look at *
  cases hf : M.find? (fun x => x.1.1 == a && x.1.2 == b) with
  | none => rw [hf] at h; cases h
  | some y => rw [hf] at h; simp [List.find?_append, hf]; simpa using h

/-- BLOCK b OF w IS THE MAP M. -/
def VMapAt (w : World) (b : Nat) (M : Made) : Prop :=
  ∃ es clock, w.heap[b]? = some (.map es clock) ∧ es.toList.map (fun e => (e.key, e.val)) = M.map (fun x => (kv x.1.1 x.1.2, Value.string x.2))

theorem vmap_made (w : World) : VMapAt (w.alloc (.map #[] 0)) w.heap.size [] :=
  ⟨#[], 0, (MapKept.heap_alloc w _).1, by simp⟩

theorem VMapAt.lt {w : World} {b : Nat} {M : Made} (h : VMapAt w b M) : b < w.heap.size := by
  obtain ⟨es, clock, hb, _⟩ := h
  exact (Array.getElem?_eq_some_iff.1 hb).1

theorem run_equal_kv (w : World) (a b c d : Int) : (Op.equal 34 (kv a b) (kv c d)).run Try.prog w = .ok (a == c && (b == d)) w := eqV 9998 w a c b d

theorem run_findAsking_kv (w : World) (i s : Int) : ∀ (es : List MapEntry) (M : Made) (j : Nat), es.map (fun e => (e.key, e.val)) = M.map (fun x => (kv x.1.1 x.1.2, Value.string x.2)) →
    ∃ r, (Instr.findAsking 34 (kv i s) es j).run Try.prog w = .ok r w ∧ r.map (·.2) = (M.look i s).map Value.string
  | [], M, j, h => by
    cases M with
    | nil => exact ⟨none, rfl, rfl⟩
    | cons x M => simp at h
  | e :: es, M, j, h => by
    cases M with
    | nil => simp at h
    | cons x M =>
      simp only [List.map_cons, List.cons.injEq, Prod.mk.injEq] at h
      obtain ⟨⟨hk, hv⟩, ht⟩ := h
      obtain ⟨r, hr, hm⟩ := run_findAsking_kv w i s es M (j + 1) ht
      unfold Instr.findAsking
      rw [Sem.run_bind, hk, run_equal_kv, Result.andThen_ok]
      by_cases hc : (i == x.1.1 && (s == x.1.2)) = true
      · rw [if_pos hc]
        refine ⟨some (j, e.val), rfl, ?_⟩
        simp only [Bool.and_eq_true, beq_iff_eq] at hc
        obtain ⟨rfl, rfl⟩ := hc
        simp [Made.look, hv]
      · rw [if_neg hc]
        refine ⟨r, hr, ?_⟩
        rw [hm]
        congr 1
        unfold Made.look
        rw [List.find?_cons_of_neg]
        intro h2
        apply hc
        simp only [Bool.and_eq_true, beq_iff_eq] at h2 ⊢
        exact ⟨h2.1.symm, h2.2.symm⟩

theorem run_findKey_kv (w : World) (i s : Int) (es : List MapEntry) (M : Made) (h : es.map (fun e => (e.key, e.val)) = M.map (fun x => (kv x.1.1 x.1.2, Value.string x.2))) :
    ∃ r, (Instr.findKey 34 (kv i s) es).run Try.prog w = .ok r w ∧ r.map (·.2) = (M.look i s).map Value.string := by
  unfold Instr.findKey
  rw [Sem.run_bind, run_underlying Try.underlying34, Result.andThen_ok]
  cases es with
  | nil =>
    cases M with
    | nil => exact ⟨none, rfl, rfl⟩
    | cons x M => simp at h
  | cons e es => exact run_findAsking_kv w i s (e :: es) M 0 h

theorem run_checkKey_kv (w : World) (em : Bool) (i s : Int) : (Instr.checkKey em 10000 34 (kv i s)).run Try.prog w = .ok () w := by
  kernel_rfl

theorem run_mapUpdate_kv {w : World} {b : Nat} {M : Made} (h : VMapAt w b M) (i s : Int) (v : ByteArray) (hn : M.look i s = none) :
    ∃ w', (Instr.mapUpdate 63 (.map (some b)) (kv i s) (.string v)).run Try.prog w = .ok () w' ∧ VMapAt w' b (M ++ [((i, s), v)]) ∧ w.grownBy w' (some b) := by
  obtain ⟨es, clock, hb, he⟩ := h
  obtain ⟨r, hr, hm⟩ := run_findKey_kv w i s es.toList M he
  rw [hn] at hm
  have hr0 : r = none := by simpa using hm
  subst hr0
  refine ⟨{ w with heap := w.heap.setIfInBounds b (.map (es.push { key := kv i s, val := .string v, born := clock }) (clock + 1)) }, ?_, ⟨es.push { key := kv i s, val := .string v, born := clock }, clock + 1, ?_, ?_⟩, ?_⟩
  · unfold Instr.mapUpdate
    simp only [Sem.run_bind, run_underlying Try.underlying63, Result.andThen_ok, MapKept.run_getObj_map hb, run_checkKey_kv, hr, MapKept.run_setObj_map _ hb]
  · have := (Array.getElem?_eq_some_iff.1 hb).1
    simp [Array.getElem?_setIfInBounds, this]
  · simp [he]
  · refine ⟨rfl, rfl, rfl, by simp, fun k _ hk => ?_⟩
    have : b ≠ k := fun e => hk (by rw [e])
    simp [Array.getElem?_setIfInBounds, this]

theorem run_lookup_kv {w : World} {b : Nat} {M : Made} (h : VMapAt w b M) (i s : Int) {v : ByteArray} (hv : M.look i s = some v) :
    (Instr.lookup 63 (.map (some b)) (kv i s) true).run Try.prog w = .ok (.tuple #[.string v, .bool true]) w := by
  obtain ⟨es, clock, hb, he⟩ := h
  obtain ⟨r, hr, hm⟩ := run_findKey_kv w i s es.toList M he
  rw [hv] at hm
  obtain ⟨j, rfl⟩ : ∃ j, r = some (j, .string v) := by
    cases r with
    | none => cases hm
    | some x => obtain ⟨a, c⟩ := x; simp at hm; exact ⟨a, by rw [hm]⟩
  unfold Instr.lookup
  simp only [Sem.run_bind, run_underlying Try.underlying63, Result.andThen_ok, MapKept.run_getObj_map hb, run_checkKey_kv, Sem.run_pure, hr]
  simp

theorem wpList_mapUpdate_kv (w : World) {ops : Array Oper} {rest : List Oper} {o : Oper} {a : Act} {Q : Exit → Act → World → Prop}
    (hg : o.guard = none) (m x v : Operand) (hop : o.op = Op.mapUpdate 63 m x v) (b : Nat) (M : Made) (hm : a.eval m = .map (some b)) (hown : VMapAt w b M) (i s : Int) (y : ByteArray)
    (hx : a.eval x = kv i s) (hv : a.eval v = .string y) (hn : M.look i s = none)
    (hK : ∀ w', VMapAt w' b (M ++ [((i, s), y)]) → w.grownBy w' (some b) → wpList Try.prog ops Q rest (a.put o.dst undef) w') : wpList Try.prog ops Q (o :: rest) a w := by
  refine wpList_plain hg fun K' hK' => ?_
  obtain ⟨w', hrun, r1, r2⟩ := run_mapUpdate_kv hown i s y hn
  unfold Oper.wp
  simp [execOp, hop, hm, hx, hv, hrun, Result.andThen]
  exact hK' _ _ (hK w' r1 r2)

theorem wpList_insert_kv (w : World) {ops : Array Oper} {rest : List Oper} {o : Oper} {a : Act} {Q : Exit → Act → World → Prop}
    (hg : o.guard = none) (m x v : Operand) (hop : o.op = Op.insert 63 m x v) (b : Nat) (M : Made) (hm : a.eval m = .map (some b)) (hown : VMapAt w b M) (i s : Int) (y : ByteArray)
    (hx : a.eval x = kv i s) (hv : a.eval v = .string y) (hn : M.look i s = none)
    (hK : ∀ w', VMapAt w' b (M ++ [((i, s), y)]) → w.grownBy w' (some b) → wpList Try.prog ops Q rest (a.put o.dst undef) w') : wpList Try.prog ops Q (o :: rest) a w := by
  refine wpList_plain hg fun K' hK' => ?_
  obtain ⟨w', hrun, r1, r2⟩ := run_mapUpdate_kv hown i s y hn
  unfold Oper.wp
  simp [execOp, hop, hm, hx, hv, hrun, Result.andThen]
  exact hK' _ _ (hK w' r1 r2)

theorem wpList_lookup_kv (w : World) {ops : Array Oper} {rest : List Oper} {o : Oper} {a : Act} {Q : Exit → Act → World → Prop}
    (hg : o.guard = none) (m x : Operand) (hop : o.op = Op.lookup 63 m x true) (b : Nat) (M : Made) (hm : a.eval m = .map (some b)) (hown : VMapAt w b M) (i s : Int) (y : ByteArray)
    (hx : a.eval x = kv i s) (hn : M.look i s = some y)
    (hK : wpList Try.prog ops Q rest (a.put o.dst (.tuple #[.string y, .bool true])) w) : wpList Try.prog ops Q (o :: rest) a w := by
  refine wpList_plain hg fun K' hK' => ?_
  unfold Oper.wp
  simp [execOp, hop, hm, hx, run_lookup_kv hown i s hn, Result.andThen]
  exact hK' _ _ hK

theorem VMapAt.kept {w w' : World} {b : Nat} {M : Made} {row : Option Nat} (h : VMapAt w b M) (hg : w.grownBy w' row) (hne : some b ≠ row) : VMapAt w' b M := by
  have hlt := h.lt
  obtain ⟨es, clock, hb, F⟩ := h
  exact ⟨es, clock, (hg.block b hlt hne).trans hb, F⟩
end Go.Proofs.Ytdmohidkighajaa
