/- Both flashes side by side: nand's and the reference's, and what the law NandPlays does to both. -/
import Derived.Test.YtppfnkedbpmliaaRNx
import Derived.Test.YtppfnkedbpmliaaNL
import Derived.Test.YtppfnkedbpmliaaLN
import Derived.Test.YtppfnkedbpmliaaCGl
set_option linter.unusedVariables false
set_option linter.unusedSimpArgs false
namespace Go.Proofs.Ytppfnkedbpmliaa
open Go Go.Rk
open Go.RowKit (Below)

theorem decG_geoT {g : Geo} {K : Geo → Prop} : decG [(.i .i64), (.i .i64), (.i .i64)] (gv g) K = K g := by simp [decG, decs, Kb.dec]
/-- nand's flash shows s, the reference's t, each in blocks of its own. -/
structure Two (w W : World) (L : NLay) (R : RLay) (B : Nat) (s t : Nd) : Prop where
  n : NandAt w.heap.size W L s
  r : RefAt B W R t
  kept : Kept w W
  lo : w.heap.size ≤ B
  lt : ∀ k, L.mut k → k < B
section
variable {w W W' : World} {L : NLay} {R : RLay} {B : Nat} {s t s' t' : Nd}
theorem Two.le (h : Two w W L R B s t) : B ≤ W.heap.size := by
  have h1 := h.r.lo R.pn (.inl rfl)
  have h2 := h.r.lt R.pn (.inl rfl)
  omega
theorem Two.nLt (h : Two w W L R B s t) {k : Nat} (hk : L.mut k) : k < W.heap.size := Nat.lt_of_lt_of_le (h.lt k hk) h.le
theorem Two.rLt (h : Two w W L R B s t) {k : Nat} (hk : R.mut k) : k < W.heap.size := h.r.lt k hk
theorem Two.keep (h : Two w W L R B s t) (k : Kept W W') : Two w W' L R B s t := ⟨h.n.kept k, h.r.kept k, h.kept.trans k, h.lo, h.lt⟩
theorem Two.nstep (h : Two w W L R B s t) (h1 : NandAt w.heap.size W' L s') (c : Chg L.mut W W') : Two w W' L R B s' t :=
  ⟨h1, h.r.chg c (fun b hb hm => by have := h.lt b hb; have := h.r.lo b hm; omega) h.n.otherR, h.kept.then c fun x hx hm => by have := h.n.lo x hm; omega, h.lo, h.lt⟩
theorem Two.rstep (h : Two w W L R B s t) (h1 : RefAt B W' R t') (c : Chg R.mut W W') : Two w W' L R B s t' :=
  ⟨h.n.chg c (fun b hb hm => by have := h.lt b hm; have := h.r.lo b hb; omega) h.r.other, h1, h.kept.then c fun x hx hm => by have := h.r.lo x hm; have := h.lo; omega, h.lo, h.lt⟩
/-- Blocks that stood when both were made: the law's inputs. -/
theorem Two.old {α : Type} {enc : α → Value} (h : Two w W L R B s t) {l : Sl} {xs : List α} (hs : Row enc w l xs) : (∀ a, l.a = some a → 0 < xs.length → ¬ L.mut a.block) ∧ ∀ a, l.a = some a → 0 < xs.length → ¬ R.mut a.block :=
  ⟨fun a ha h0 hm => by have := hs.block_lt h0 ha; have := h.n.lo _ hm; omega, fun a ha h0 hm => by have := hs.block_lt h0 ha; have := h.r.lo _ hm; have := h.lo; omega⟩
end
abbrev Act := Int × Int × Int × Int × Int × Sl × Sl × Unit
def eAct (a : Act) : List Value := [.int .i64 a.1, .int .i64 a.2.1, .int .i64 a.2.2.1, .int .i64 a.2.2.2.1, .int .i64 a.2.2.2.2.1, a.2.2.2.2.2.1.v, a.2.2.2.2.2.2.1.v]
theorem eAct_len (a : Act) : (eAct a).length = 7 := rfl
/-- What an act's slices show. -/
def ActOk (w : World) (a : Act) : Prop := (∃ bs, Row eB w a.2.2.2.2.2.1 bs) ∧ ∃ ns, Row eI w a.2.2.2.2.2.2.1 ns ∧ ∀ z ∈ ns, z ≤ 9223372036854775807
def ActFew (a : Act) : Prop := a.2.2.2.2.2.1.l ≤ 100 ∧ a.2.2.2.2.2.2.1.l ≤ 20
structure Acts (w : World) (s : Sl) (xs : List Act) : Prop where
  row : RowN 7 eAct w s xs
  ok : ∀ a ∈ xs, ActOk w a
  len : xs.length ≤ 9223372036854775807
theorem ActOk.kept {w w' : World} {a : Act} (h : ActOk w a) (k : Kept w w') : ActOk w' a := by
  obtain ⟨⟨bs, h1⟩, ns, h2, h3⟩ := h
  exact ⟨⟨bs, h1.kept k⟩, ns, h2.kept k, h3⟩
theorem Acts.kept {w w' : World} {s : Sl} {xs : List Act} (h : Acts w s xs) (k : Kept w w') : Acts w' s xs := ⟨h.row.kept eAct_len k, fun a ha => (h.ok a ha).kept k, h.len⟩
/-- Few acts, each with few bytes. -/
theorem few_ok {w : World} {s : Sl} {xs : List Act} (h : Acts w s xs) :
    Ok Try.prog 55 [s.v] w fun v w' => ∃ b : Bool, v = .bool b ∧ w' = w ∧ (b = true → xs.length ≤ 60 ∧ ∀ a ∈ xs, ActFew a) := by
  have hl := h.row.len
  have hb := h.len
  apply u55
  unfold T55
  refine joinT_of (fun _ W => W = w ∧ ∀ a ∈ xs, ActFew a) ?_ ?_
  · refine loopT_of (fun d W => ∃ i : Nat, d = ((i : Int), ()) ∧ W = w ∧ i ≤ xs.length ∧ ∀ j (hj : j < xs.length), j < i → ActFew xs[j]) (fun d _ => xs.length - d.1.toNat)
      ⟨0, rfl, rfl, by omega, fun j hj h0 => by omega⟩ ?_
    rintro d W ⟨i, rfl, rfl, hi, hall⟩ _
    refine cond_of (fun hc => ?_) fun hc => ?_
    · simp [hl] at hc
      refine joinT_of (fun d W' => W' = W ∧ (d.1 = false → ActFew xs[i])) ?_ ?_
      · refine h.row.ix hc fun q hq hcell => rdS_of (s := xs[i].2.2.2.2.2.1) (hcell 5 (by omega)) ?_
        refine cond_of (fun hc2 => ⟨rfl, fun h => by cases h⟩) fun hc2 => ?_
        refine h.row.ix hc fun q hq hcell => rdS_of (s := xs[i].2.2.2.2.2.2.1) (hcell 6 (by omega)) ⟨rfl, fun h0 => ?_⟩
        simp at hc2 h0
        exact ⟨by omega, by omega⟩
      · rintro ⟨d, _⟩ W' ⟨rfl, hd⟩ _
        refine cond_of (fun hc2 => ⟨_, rfl, rfl, fun h => by cases h⟩) fun hc2 => ?_
        refine ⟨⟨i + 1, ?_, rfl, by omega, fun j hj h0 => ?_⟩, ?_⟩
        · rw [w64 (by omega) (by omega)]; rfl
        · by_cases hji : j = i
          · subst hji; exact hd hc2
          · exact hall j hj (by omega)
        · rw [w64 (by omega) (by omega)]; simp; omega
    · simp [hl] at hc
      refine ⟨rfl, fun a ha => ?_⟩
      obtain ⟨j, hj, rfl⟩ := List.getElem_of_mem ha
      exact hall j hj (by omega)
  · rintro _ W ⟨rfl, hall⟩ _
    refine ⟨_, rfl, rfl, fun hb => ⟨?_, hall⟩⟩
    simp [hl] at hb
    omega
