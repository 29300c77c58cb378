/- What ramekinref7.New makes: flash that is erased, or nothing where the geometry or a bad block may not be. (The orders of the operands are printed by wip/gen/rnew.py.) -/
import Derived.Test.YtppfnkedbpmliaaRQ
set_option linter.unusedVariables false
set_option linter.unusedSimpArgs false
namespace Go.Proofs.Ytppfnkedbpmliaa
open Go Go.Rk
open Go.RowKit (Below)

theorem _root_.Go.RowKit.Below.then_chg0 {B : Nat} {a b c : World} (h : Below B a b) (k : Below B b c) : Below B a c := h.trans k
theorem kept_below {a b c : World} {B : Nat} (h : Kept a b) (g : Below B b c) (hB : a.heap.size ≤ B) : Kept a c := Below.trans h (g.mono hB)
theorem GeoAt.below {w w' : World} {p B : Nat} {g : Geo} (h : GeoAt w ⟨p, 0, none⟩ g) (k : Below B w w') (hp : p < B) : GeoAt w' ⟨p, 0, none⟩ g := by
  obtain ⟨h1, h2, h3⟩ := h
  rw [addN] at h2 h3
  refine ⟨(k.cell hp).trans h1, ?_, ?_⟩
  · rw [addN]; exact (k.cell hp).trans h2
  · rw [addN]; exact (k.cell hp).trans h3
/-- The own block of a row is of its elements' type. -/
theorem MineN.own_ty {α : Type} {sz : Nat} {enc : α → List Value} {e : TypeId} {base : Nat} {w : World} {s : Sl} {xs : List α} (h : MineN sz enc e base w s xs) : ∀ k, s.v.ownBlock = some k → ∃ cur, w.heap[k]? = some (.cells cur e (0, 0)) := by
  intro k hk
  rcases h.forms with ⟨rfl, _⟩ | ⟨g, cap, cur, rfl, _, h2, _⟩
  · simp [Value.ownBlock] at hk
  · simp [Value.ownBlock] at hk
    subst hk
    exact ⟨cur, h2⟩
theorem Mine.own_ty {α : Type} {enc : α → Value} {e : TypeId} {base : Nat} {w : World} {s : Sl} {xs : List α} (h : Mine enc e base w s xs) : ∀ k, s.v.ownBlock = some k → ∃ cur, w.heap[k]? = some (.cells cur e (0, 0)) := by
  intro k hk
  rcases h.forms with ⟨rfl, _⟩ | ⟨g, cap, cur, rfl, _, h2, _⟩
  · simp [Value.ownBlock] at hk
  · simp [Value.ownBlock] at hk
    subst hk
    exact ⟨cur, h2⟩
def OwnTy (w : World) (s : Sl) (e : TypeId) : Prop := ∀ k, s.v.ownBlock = some k → ∃ cur, w.heap[k]? = some (.cells cur e (0, 0))
abbrev ownF (s : Sl) : Nat → Prop := fun k => some k = s.v.ownBlock
theorem OwnTy.blk {w : World} {s : Sl} {e e' : TypeId} {b : Nat} {cs : List Value} (h : OwnTy w s e) (hb : Blk w b e' cs) (hne : e ≠ e') : ¬ ownF s b := fun hf => by
  obtain ⟨cur, hc⟩ := h b hf.symm
  exact heap_ne hc hb hne rfl
theorem OwnTy.mine {w : World} {s : Sl} {e : TypeId} (h : OwnTy w s e) {α : Type} {enc : α → Value} {e' : TypeId} {base : Nat} {s' : Sl} {xs : List α} (m : Mine enc e' base w s' xs) (hne : e ≠ e') : ∀ b, s'.a = some b → ¬ ownF s b.block := by
  intro b hb hf
  obtain ⟨cur, hc⟩ := h b.block hf.symm
  rcases m.forms with ⟨rfl, _⟩ | ⟨g, cap, cur', rfl, _, h2, _⟩
  · cases hb
  · cases hb
    exact heap_ne hc h2 hne rfl
theorem OwnTy.mineN {w : World} {s : Sl} {e : TypeId} (h : OwnTy w s e) {α : Type} {sz : Nat} {enc : α → List Value} {e' : TypeId} {base : Nat} {s' : Sl} {xs : List α} (m : MineN sz enc e' base w s' xs) (hne : e ≠ e') : ∀ b, s'.a = some b → ¬ ownF s b.block := by
  intro b hb hf
  obtain ⟨cur, hc⟩ := h b.block hf.symm
  rcases m.forms with ⟨rfl, _⟩ | ⟨g, cap, cur', rfl, _, h2, _⟩
  · cases hb
  · cases hb
    exact heap_ne hc h2 hne rfl
theorem szBk : SzN Try.prog 120 123 4 := SzN_of (by kernel_rfl)
theorem szLs : Sz Try.prog 121 35 := Sz_of (by kernel_rfl)
theorem szPg : Sz Try.prog 77 22 := Sz_of (by kernel_rfl)
theorem szSo : Sz Try.prog 116 120 := Sz_of (by kernel_rfl)
theorem szSl : Sz Try.prog 117 121 := Sz_of (by kernel_rfl)
abbrev nilS : Sl := ⟨none, 0, 0⟩
/-- What stands while a die's blocks are made: the blocks before, the one that is made. -/
structure OldB (B0 : Nat) (W : World) (P i : Nat) (pp ll : Nat → Nat) (cp : Nat → Nat) (ds : Nat → Nat → Sl) : Prop where
  pag : ∀ b, b < i → Mine eS 22 B0 W ⟨some ⟨pp b, 0, none⟩, P, cp b⟩ ((List.range P).map (ds b))
  noi : ∀ b, b < i → Mine eS 23 B0 W ⟨some ⟨ll b, 0, none⟩, P, P⟩ ((List.range P).map fun _ => nilS)
  dat : ∀ b p, b < i → p < P → Mine eB 5 B0 W (ds b p) blankL
section
variable {B0 : Nat} {W W' : World} {P i : Nat} {pp ll : Nat → Nat} {cp : Nat → Nat} {ds : Nat → Nat → Sl} {F : Nat → Prop}
theorem OldB.kept (h : OldB B0 W P i pp ll cp ds) (k : Kept W W') : OldB B0 W' P i pp ll cp ds :=
  ⟨fun b hb => (h.pag b hb).kept k, fun b hb => (h.noi b hb).kept k, fun b p hb hp => (h.dat b p hb hp).kept k⟩
theorem OldB.own (h : OldB B0 W P i pp ll cp ds) {s : Sl} {e : TypeId} (o : OwnTy W s e) (he : e ≠ 22 ∧ e ≠ 23 ∧ e ≠ 5) (k : Chg (ownF s) W W') : OldB B0 W' P i pp ll cp ds :=
  ⟨fun b hb => (h.pag b hb).chg k (o.mine (h.pag b hb) he.1), fun b hb => (h.noi b hb).chg k (o.mine (h.noi b hb) he.2.1), fun b p hb hp => (h.dat b p hb hp).chg k (o.mine (h.dat b p hb hp) he.2.2)⟩
theorem OldB.one (h : OldB B0 W P i pp ll cp ds) {x : Nat} {e : TypeId} {cs : List Value} (o : Blk W x e cs) (he : 22 ≠ e ∧ 23 ≠ e ∧ 5 ≠ e) (k : Chg (· = x) W W') : OldB B0 W' P i pp ll cp ds :=
  ⟨fun b hb => (h.pag b hb).chg k (o.mine_ne (h.pag b hb) he.1), fun b hb => (h.noi b hb).chg k (o.mine_ne (h.noi b hb) he.2.1), fun b p hb hp => (h.dat b p hb hp).chg k (o.mine_ne (h.dat b p hb hp) he.2.2)⟩
theorem OldB.mono (h : OldB B0 W P i pp ll cp ds) {B1 : Nat} (hB : B1 ≤ B0) : OldB B1 W P i pp ll cp ds :=
  ⟨fun b hb => (h.pag b hb).mono hB, fun b hb => (h.noi b hb).mono hB, fun b p hb hp => (h.dat b p hb hp).mono hB⟩
end
structure Tail (B0 Br : Nat) (W : World) (p1 p28 : Nat) (g : Geo) (P i : Nat) (pp ll : Nat → Nat) (cp : Nat → Nat) (ds : Nat → Nat → Sl) (sP : Sl) (dp : Nat → Sl) (bs : Sl) (rb : List Bk) (ls : Sl) (rl : List Sl) : Prop where
  geo : GeoAt W ⟨p1, 0, none⟩ g
  gp : p1 < B0
  loc : Blk W p28 123 [.slice sP.a sP.l sP.c, .int .i64 0, .int .i64 0, .bool false]
  bsm : MineN 4 eBk 123 B0 W bs rb
  lsm : Mine eS 35 B0 W ls rl
  old : OldB B0 W P i pp ll cp ds
  cur : Mine eS 22 Br W sP ((List.range P).map dp)
  pgs : ∀ p, p < P → Mine eB 5 Br W (dp p) blankL
section
variable {B0 Br : Nat} {W W' : World} {p1 p28 : Nat} {g : Geo} {P i : Nat} {pp ll : Nat → Nat} {cp : Nat → Nat} {ds : Nat → Nat → Sl} {sP : Sl} {dp : Nat → Sl} {bs : Sl} {rb : List Bk} {ls : Sl} {rl : List Sl}
theorem Tail.kept (h : Tail B0 Br W p1 p28 g P i pp ll cp ds sP dp bs rb ls rl) (k : Kept W W') : Tail B0 Br W' p1 p28 g P i pp ll cp ds sP dp bs rb ls rl :=
  ⟨h.geo.kept k, h.gp, h.loc.kept k, h.bsm.kept k, h.lsm.kept k, h.old.kept k, h.cur.kept k, fun p hp => (h.pgs p hp).kept k⟩
theorem Tail.bs_ne (h : Tail B0 Br W p1 p28 g P i pp ll cp ds sP dp bs rb ls rl) {b : Nat} {e : TypeId} {cs : List Value} (hb : Blk W b e cs) (hne : 123 ≠ e) : ¬ ownF bs b := OwnTy.blk (MineN.own_ty h.bsm) hb hne
theorem Tail.ls_ne (h : Tail B0 Br W p1 p28 g P i pp ll cp ds sP dp bs rb ls rl) {b : Nat} {e : TypeId} {cs : List Value} (hb : Blk W b e cs) (hne : 35 ≠ e) : ¬ ownF ls b := OwnTy.blk (Mine.own_ty h.lsm) hb hne
/-- One block more. -/
theorem Tail.appB (h : Tail B0 Br W p1 p28 g P i pp ll cp ds sP dp bs rb ls rl) {a : Nat} {ty : TypeId} (hA : Blk W a 123 [.slice sP.a sP.l sP.c, .int .i64 0, .int .i64 0, .bool false]) (hB : B0 ≤ W.heap.size) (h28 : ¬ ownF bs p28) (hl : rb.length ≤ 1000) {K : Value → World → Prop}
    (k : ∀ s' W', Tail B0 Br W' p1 p28 g P i pp ll cp ds sP dp s' (rb ++ [(sP, 0, 0, false)]) ls rl → Chg (ownF bs) W W' → Below B0 W W' → K s'.v W') : raw Try.prog (Builtin.append_ #[120, 120] ty #[.slice bs.a bs.l bs.c, .slice (some ⟨a, 0, none⟩) 1 1]) W K := by
  have hr : RowN 4 eBk W ⟨some ⟨a, 0, none⟩, 1, 1⟩ [(sP, 0, 0, false)] := by
    refine ⟨rfl, (fun h => by cases h), fun i hi => ⟨_, rfl, fun j hj => ?_⟩⟩
    have : i = 0 := by simp at hi; omega
    subst this
    rw [addN, addN]
    exact hA.cell _ |>.trans (by simp [eBk])
  refine raw_appendN szBk eBk_len eBk_one (s := bs) (u := ⟨some ⟨a, 0, none⟩, 1, 1⟩) h.bsm hr (by simp; omega) hB fun s' W' g1 g2 g3 => ?_
  have c : Chg (ownF bs) W W' := Chg.of_grown g2 fun k hk => hk.symm
  have o : OwnTy W bs 123 := MineN.own_ty h.bsm
  exact k s' W' ⟨h.geo.below g3 h.gp, h.gp, h.loc.chg c h28, g1, h.lsm.chg c (o.mine h.lsm (by decide)), h.old.own o (by decide) c, h.cur.chg c (o.mine h.cur (by decide)), fun p hp => (h.pgs p hp).chg c (o.mine (h.pgs p hp) (by decide))⟩ c g3
/-- Its noise. -/
theorem Tail.appE (h : Tail B0 Br W p1 p28 g P i pp ll cp ds sP dp bs rb ls rl) {a : Nat} {ty : TypeId} {t : Sl} (hA : Blk W a 35 [.slice t.a t.l t.c]) (hB : B0 ≤ W.heap.size) (hl : rl.length ≤ 1000) {K : Value → World → Prop}
    (k : ∀ s' W', Tail B0 Br W' p1 p28 g P i pp ll cp ds sP dp bs rb s' (rl ++ [t]) → Chg (ownF ls) W W' → Below B0 W W' → K s'.v W') : raw Try.prog (Builtin.append_ #[121, 121] ty #[.slice ls.a ls.l ls.c, .slice (some ⟨a, 0, none⟩) 1 1]) W K := by
  refine raw_push szLs (enc := eS) (fun _ => rfl) (s := ls) (x := t) h.lsm hA hB (by omega) fun s' W' g1 c g3 => ?_
  have o : OwnTy W ls 35 := Mine.own_ty h.lsm
  exact k s' W' ⟨h.geo.below g3 h.gp, h.gp, h.loc.chg c (o.blk h.loc (by decide)), h.bsm.chg c (o.mineN h.bsm (by decide)), g1, h.old.own o (by decide) c, h.cur.chg c (o.mine h.cur (by decide)), fun p hp => (h.pgs p hp).chg c (o.mine (h.pgs p hp) (by decide))⟩ c g3
end
/-- The dies that are made. -/
structure DieF (B0 : Nat) (W : World) (P B : Nat) (bs : Nat) (cr : Nat) (rs : Sl) (pp ll : Nat → Nat) (cp : Nat → Nat) (ds : Nat → Nat → Sl) : Prop where
  row : MineN 4 eBk 123 B0 W ⟨some ⟨bs, 0, none⟩, B, cr⟩ ((List.range B).map fun b => (⟨some ⟨pp b, 0, none⟩, P, cp b⟩, 0, 0, false))
  noi : Mine eS 35 B0 W rs ((List.range B).map fun b => ⟨some ⟨ll b, 0, none⟩, P, P⟩)
  old : OldB B0 W P B pp ll cp ds
theorem DieF.kept {B0 : Nat} {W W' : World} {P B bs cr : Nat} {rs : Sl} {pp ll cp : Nat → Nat} {ds : Nat → Nat → Sl} (h : DieF B0 W P B bs cr rs pp ll cp ds) (k : Kept W W') : DieF B0 W' P B bs cr rs pp ll cp ds := ⟨h.row.kept k, h.noi.kept k, h.old.kept k⟩
theorem DieF.own {B0 : Nat} {W W' : World} {P B bs cr : Nat} {rs : Sl} {pp ll cp : Nat → Nat} {ds : Nat → Nat → Sl} (h : DieF B0 W P B bs cr rs pp ll cp ds) {s : Sl} {e : TypeId} (o : OwnTy W s e) (he : e ≠ 22 ∧ e ≠ 23 ∧ e ≠ 5 ∧ e ≠ 123 ∧ e ≠ 35) (k : Chg (ownF s) W W') : DieF B0 W' P B bs cr rs pp ll cp ds :=
  ⟨h.row.chg k (o.mineN h.row he.2.2.2.1), h.noi.chg k (o.mine h.noi he.2.2.2.2), h.old.own o ⟨he.1, he.2.1, he.2.2.1⟩ k⟩
theorem DieF.one {B0 : Nat} {W W' : World} {P B bs cr : Nat} {rs : Sl} {pp ll cp : Nat → Nat} {ds : Nat → Nat → Sl} (h : DieF B0 W P B bs cr rs pp ll cp ds) {x : Nat} {cs : List Value} (o : Blk W x 119 cs) (k : Chg (· = x) W W') : DieF B0 W' P B bs cr rs pp ll cp ds :=
  ⟨h.row.chg k (h.row.ne_blk o (by decide)), h.noi.chg k (o.mine_ne h.noi (by decide)), h.old.one o (by decide) k⟩
theorem DieF.mono {B0 B1 : Nat} {W : World} {P B bs cr : Nat} {rs : Sl} {pp ll cp : Nat → Nat} {ds : Nat → Nat → Sl} (h : DieF B0 W P B bs cr rs pp ll cp ds) (hB : B1 ≤ B0) : DieF B1 W P B bs cr rs pp ll cp ds := ⟨h.row.mono hB, h.noi.mono hB, h.old.mono hB⟩

/-- A die's blocks are made. -/
theorem rnewDie {W0 : World} {p1 : Nat} {g : Geo} {K : Sl × Sl × Unit → World → Prop} (hf : fits g = true) (hg : GeoAt W0 ⟨p1, 0, none⟩ g) {PN BN : Nat} (hPN : g.2.2.1 = (PN : Int)) (hBN : g.2.1 = (BN : Int))
    (k : ∀ W bs cr rs pp ll cp ds, Kept W0 W → DieF W0.heap.size W PN BN bs cr rs pp ll cp ds → (∀ b b', b < b' → b' < BN → pp b < pp b' ∧ ll b < ll b') → K (⟨some ⟨bs, 0, none⟩, BN, cr⟩, rs, ()) W) :
    joinT (D := Sl × Sl × Unit) (fun k21 =>
 loopT (D := Sl × Sl × Int × Unit) (fun d24 w25 k26 => ∀ _ : Regs,
 rdI .i64 w25 ((⟨p1, 0, none⟩ : Addr).add 1) fun n27 =>
 cond (decide (d24.2.2.1 < n27))
 (al w25 (.cells #[(.slice none 0 0), (.int .i64 0), (.int .i64 0), (.bool false)] 123) fun p28 w29 =>
 wr w29 p28 (.slice none 0 0) fun w30 =>
 wr w30 (p28.add 1) (.int .i64 0) fun w31 =>
 wr w31 (p28.add 2) (.int .i64 0) fun w32 =>
 wr w32 (p28.add 3) (.bool false) fun w33 =>
 joinT (D := Unit) (fun k34 =>
 loopT (D := Int × Unit) (fun d37 w38 k39 => ∀ _ : Regs,
 rdI .i64 w38 ((⟨p1, 0, none⟩ : Addr).add 2) fun n40 =>
 cond (decide (d37.1 < n40))
 (rdS w38.drew p28 fun s41 =>
 Ok Try.prog 89 [] w38.drew fun v42 w43 =>
 decS v42 fun s44 =>
 rdS w43 p28 fun s45 =>
 ((.slice s45.a s45.l s45.c) : Value) = (.slice s41.a s41.l s41.c) ∧
 al w43 (.cells #[(.slice s44.a s44.l s44.c)] 22) fun p46 w47 =>
 rdS w47 p28 fun s48 =>
 ((.slice s48.a s48.l s48.c) : Value) = (.slice s41.a s41.l s41.c) ∧
 raw Try.prog (Builtin.append_ #[77, 77] 77 #[(.slice s41.a s41.l s41.c), (.slice (some p46) 1 1)]) w47 fun v49 w50 =>
 decS v49 fun s51 =>
 wr w50 p28 (.slice s51.a s51.l s51.c) fun w52 =>
 k39 ((IntKind.wrap .i64 (d37.1 + 1)), ()) w52)
 (k34 () w38))
 (0, ()) w33)
 fun d35 w36 => ∀ _ : Regs,
 rdS w36.drew p28 fun s53 =>
 rdI .i64 w36.drew (p28.add 1) fun n54 =>
 rdI .i64 w36.drew (p28.add 2) fun n55 =>
 rdB w36.drew (p28.add 3) fun b56 =>
 rdI .i64 w36.drew ((⟨p1, 0, none⟩ : Addr).add 2) fun n57 =>
 (al w36.drew (.cells #[(.slice s53.a s53.l s53.c), (.int .i64 n54), (.int .i64 n55), (.bool b56)] 123) fun p109 w110 =>
 rdI .i64 w110 ((⟨p1, 0, none⟩ : Addr).add 2) fun n111 =>
 ((.int .i64 n111) : Value) = (.int .i64 n57) ∧
 (raw Try.prog (Builtin.append_ #[120, 120] 120 #[(.slice d24.1.a d24.1.l d24.1.c), (.slice (some p109) 1 1)]) w110 fun v144 w145 =>
 decS v144 fun s146 =>
 rdI .i64 w145 ((⟨p1, 0, none⟩ : Addr).add 2) fun n147 =>
 ((.int .i64 n147) : Value) = (.int .i64 n57) ∧
 (0 : Int) ≤ n57 ∧ n57 ≤ n57 ∧ ((24 : Nat) : Int) * n57 ≤ 281474976710656 ∧ n57 ≤ 281474976710656 ∧
 al w145 (.cells (zeroRow #[(.slice none 0 0)] ((Int.toNat n57) * 1)) 23) fun p148 w149 =>
 rdS w149 p28 fun s150 =>
 rdI .i64 w149 (p28.add 1) fun n151 =>
 rdI .i64 w149 (p28.add 2) fun n152 =>
 rdB w149 (p28.add 3) fun b153 =>
 ((.agg #[(.slice s150.a s150.l s150.c), (.int .i64 n151), (.int .i64 n152), (.bool b153)]) : Value) = (.agg #[(.slice s53.a s53.l s53.c), (.int .i64 n54), (.int .i64 n55), (.bool b56)]) ∧
 al w149 (.cells #[(.slice (some p148) (Int.toNat n57) (Int.toNat n57))] 35) fun p154 w155 =>
 rdS w155 p28 fun s156 =>
 rdI .i64 w155 (p28.add 1) fun n157 =>
 rdI .i64 w155 (p28.add 2) fun n158 =>
 rdB w155 (p28.add 3) fun b159 =>
 ((.agg #[(.slice s156.a s156.l s156.c), (.int .i64 n157), (.int .i64 n158), (.bool b159)]) : Value) = (.agg #[(.slice s53.a s53.l s53.c), (.int .i64 n54), (.int .i64 n55), (.bool b56)]) ∧
 raw Try.prog (Builtin.append_ #[121, 121] 121 #[(.slice d24.2.1.a d24.2.1.l d24.2.1.c), (.slice (some p154) 1 1)]) w155 fun v160 w161 =>
 decS v160 fun s162 =>
 k26 (s146, s162, (IntKind.wrap .i64 (d24.2.2.1 + 1)), ()) w161) ∧
 ((0 : Int) ≤ n57 ∧ n57 ≤ n57 ∧ ((24 : Nat) : Int) * n57 ≤ 281474976710656 ∧ n57 ≤ 281474976710656 ∧
 al w110 (.cells (zeroRow #[(.slice none 0 0)] ((Int.toNat n57) * 1)) 23) fun p112 w113 =>
 rdS w113 p28 fun s114 =>
 rdI .i64 w113 (p28.add 1) fun n115 =>
 rdI .i64 w113 (p28.add 2) fun n116 =>
 rdB w113 (p28.add 3) fun b117 =>
 ((.agg #[(.slice s114.a s114.l s114.c), (.int .i64 n115), (.int .i64 n116), (.bool b117)]) : Value) = (.agg #[(.slice s53.a s53.l s53.c), (.int .i64 n54), (.int .i64 n55), (.bool b56)]) ∧
 (raw Try.prog (Builtin.append_ #[120, 120] 120 #[(.slice d24.1.a d24.1.l d24.1.c), (.slice (some p109) 1 1)]) w113 fun v131 w132 =>
 decS v131 fun s133 =>
 rdI .i64 w132 ((⟨p1, 0, none⟩ : Addr).add 2) fun n134 =>
 ((.int .i64 n134) : Value) = (.int .i64 n57) ∧
 al w132 (.cells #[(.slice (some p112) (Int.toNat n57) (Int.toNat n57))] 35) fun p135 w136 =>
 rdS w136 p28 fun s137 =>
 rdI .i64 w136 (p28.add 1) fun n138 =>
 rdI .i64 w136 (p28.add 2) fun n139 =>
 rdB w136 (p28.add 3) fun b140 =>
 ((.agg #[(.slice s137.a s137.l s137.c), (.int .i64 n138), (.int .i64 n139), (.bool b140)]) : Value) = (.agg #[(.slice s53.a s53.l s53.c), (.int .i64 n54), (.int .i64 n55), (.bool b56)]) ∧
 raw Try.prog (Builtin.append_ #[121, 121] 121 #[(.slice d24.2.1.a d24.2.1.l d24.2.1.c), (.slice (some p135) 1 1)]) w136 fun v141 w142 =>
 decS v141 fun s143 =>
 k26 (s133, s143, (IntKind.wrap .i64 (d24.2.2.1 + 1)), ()) w142) ∧
 (al w113 (.cells #[(.slice (some p112) (Int.toNat n57) (Int.toNat n57))] 35) fun p118 w119 =>
 rdS w119 p28 fun s120 =>
 rdI .i64 w119 (p28.add 1) fun n121 =>
 rdI .i64 w119 (p28.add 2) fun n122 =>
 rdB w119 (p28.add 3) fun b123 =>
 ((.agg #[(.slice s120.a s120.l s120.c), (.int .i64 n121), (.int .i64 n122), (.bool b123)]) : Value) = (.agg #[(.slice s53.a s53.l s53.c), (.int .i64 n54), (.int .i64 n55), (.bool b56)]) ∧
 raw Try.prog (Builtin.append_ #[120, 120] 120 #[(.slice d24.1.a d24.1.l d24.1.c), (.slice (some p109) 1 1)]) w119 fun v124 w125 =>
 decS v124 fun s126 =>
 rdI .i64 w125 ((⟨p1, 0, none⟩ : Addr).add 2) fun n127 =>
 ((.int .i64 n127) : Value) = (.int .i64 n57) ∧
 raw Try.prog (Builtin.append_ #[121, 121] 121 #[(.slice d24.2.1.a d24.2.1.l d24.2.1.c), (.slice (some p118) 1 1)]) w125 fun v128 w129 =>
 decS v128 fun s130 =>
 k26 (s126, s130, (IntKind.wrap .i64 (d24.2.2.1 + 1)), ()) w129))) ∧
 ((0 : Int) ≤ n57 ∧ n57 ≤ n57 ∧ ((24 : Nat) : Int) * n57 ≤ 281474976710656 ∧ n57 ≤ 281474976710656 ∧
 al w36.drew (.cells (zeroRow #[(.slice none 0 0)] ((Int.toNat n57) * 1)) 23) fun p58 w59 =>
 rdS w59 p28 fun s60 =>
 rdI .i64 w59 (p28.add 1) fun n61 =>
 rdI .i64 w59 (p28.add 2) fun n62 =>
 rdB w59 (p28.add 3) fun b63 =>
 ((.agg #[(.slice s60.a s60.l s60.c), (.int .i64 n61), (.int .i64 n62), (.bool b63)]) : Value) = (.agg #[(.slice s53.a s53.l s53.c), (.int .i64 n54), (.int .i64 n55), (.bool b56)]) ∧
 (al w59 (.cells #[(.slice s53.a s53.l s53.c), (.int .i64 n54), (.int .i64 n55), (.bool b56)] 123) fun p80 w81 =>
 rdI .i64 w81 ((⟨p1, 0, none⟩ : Addr).add 2) fun n82 =>
 ((.int .i64 n82) : Value) = (.int .i64 n57) ∧
 (raw Try.prog (Builtin.append_ #[120, 120] 120 #[(.slice d24.1.a d24.1.l d24.1.c), (.slice (some p80) 1 1)]) w81 fun v96 w97 =>
 decS v96 fun s98 =>
 rdI .i64 w97 ((⟨p1, 0, none⟩ : Addr).add 2) fun n99 =>
 ((.int .i64 n99) : Value) = (.int .i64 n57) ∧
 al w97 (.cells #[(.slice (some p58) (Int.toNat n57) (Int.toNat n57))] 35) fun p100 w101 =>
 rdS w101 p28 fun s102 =>
 rdI .i64 w101 (p28.add 1) fun n103 =>
 rdI .i64 w101 (p28.add 2) fun n104 =>
 rdB w101 (p28.add 3) fun b105 =>
 ((.agg #[(.slice s102.a s102.l s102.c), (.int .i64 n103), (.int .i64 n104), (.bool b105)]) : Value) = (.agg #[(.slice s53.a s53.l s53.c), (.int .i64 n54), (.int .i64 n55), (.bool b56)]) ∧
 raw Try.prog (Builtin.append_ #[121, 121] 121 #[(.slice d24.2.1.a d24.2.1.l d24.2.1.c), (.slice (some p100) 1 1)]) w101 fun v106 w107 =>
 decS v106 fun s108 =>
 k26 (s98, s108, (IntKind.wrap .i64 (d24.2.2.1 + 1)), ()) w107) ∧
 (al w81 (.cells #[(.slice (some p58) (Int.toNat n57) (Int.toNat n57))] 35) fun p83 w84 =>
 rdS w84 p28 fun s85 =>
 rdI .i64 w84 (p28.add 1) fun n86 =>
 rdI .i64 w84 (p28.add 2) fun n87 =>
 rdB w84 (p28.add 3) fun b88 =>
 ((.agg #[(.slice s85.a s85.l s85.c), (.int .i64 n86), (.int .i64 n87), (.bool b88)]) : Value) = (.agg #[(.slice s53.a s53.l s53.c), (.int .i64 n54), (.int .i64 n55), (.bool b56)]) ∧
 raw Try.prog (Builtin.append_ #[120, 120] 120 #[(.slice d24.1.a d24.1.l d24.1.c), (.slice (some p80) 1 1)]) w84 fun v89 w90 =>
 decS v89 fun s91 =>
 rdI .i64 w90 ((⟨p1, 0, none⟩ : Addr).add 2) fun n92 =>
 ((.int .i64 n92) : Value) = (.int .i64 n57) ∧
 raw Try.prog (Builtin.append_ #[121, 121] 121 #[(.slice d24.2.1.a d24.2.1.l d24.2.1.c), (.slice (some p83) 1 1)]) w90 fun v93 w94 =>
 decS v93 fun s95 =>
 k26 (s91, s95, (IntKind.wrap .i64 (d24.2.2.1 + 1)), ()) w94)) ∧
 (al w59 (.cells #[(.slice (some p58) (Int.toNat n57) (Int.toNat n57))] 35) fun p64 w65 =>
 rdS w65 p28 fun s66 =>
 rdI .i64 w65 (p28.add 1) fun n67 =>
 rdI .i64 w65 (p28.add 2) fun n68 =>
 rdB w65 (p28.add 3) fun b69 =>
 ((.agg #[(.slice s66.a s66.l s66.c), (.int .i64 n67), (.int .i64 n68), (.bool b69)]) : Value) = (.agg #[(.slice s53.a s53.l s53.c), (.int .i64 n54), (.int .i64 n55), (.bool b56)]) ∧
 al w65 (.cells #[(.slice s53.a s53.l s53.c), (.int .i64 n54), (.int .i64 n55), (.bool b56)] 123) fun p70 w71 =>
 rdI .i64 w71 ((⟨p1, 0, none⟩ : Addr).add 2) fun n72 =>
 ((.int .i64 n72) : Value) = (.int .i64 n57) ∧
 raw Try.prog (Builtin.append_ #[120, 120] 120 #[(.slice d24.1.a d24.1.l d24.1.c), (.slice (some p70) 1 1)]) w71 fun v73 w74 =>
 decS v73 fun s75 =>
 rdI .i64 w74 ((⟨p1, 0, none⟩ : Addr).add 2) fun n76 =>
 ((.int .i64 n76) : Value) = (.int .i64 n57) ∧
 raw Try.prog (Builtin.append_ #[121, 121] 121 #[(.slice d24.2.1.a d24.2.1.l d24.2.1.c), (.slice (some p64) 1 1)]) w74 fun v77 w78 =>
 decS v77 fun s79 =>
 k26 (s75, s79, (IntKind.wrap .i64 (d24.2.2.1 + 1)), ()) w78)))
 (k21 (d24.1, d24.2.1, ()) w25))
 (⟨none, 0, 0⟩, ⟨none, 0, 0⟩, 0, ()) W0)
 fun d w => K d w := by
  obtain ⟨a1, a2, a3, a4, a5, a6⟩ := fits_bounds hf
  have hp1 : p1 < W0.heap.size := World.block_lt_of_cell? _ _ hg.1
  refine joinT_of (fun d W => ∃ bs cr rs pp ll cp ds, d = (⟨some ⟨bs, 0, none⟩, BN, cr⟩, rs, ()) ∧ Kept W0 W ∧ DieF W0.heap.size W PN BN bs cr rs pp ll cp ds ∧ ∀ b b', b < b' → b' < BN → pp b < pp b' ∧ ll b < ll b') ?_ ?_
  rotate_left
  · rintro d W ⟨bs, cr, rs, pp, ll, cp, ds, rfl, k1, k2, k3⟩
    exact k W bs cr rs pp ll cp ds k1 k2 k3
  refine loopT_of (fun e W => ∃ (i : Nat) (bs ls : Sl) (pp ll : Nat → Nat) (cp : Nat → Nat) (ds : Nat → Nat → Sl), e = (bs, ls, (i : Int), ()) ∧ i ≤ BN ∧ Kept W0 W ∧ MineN 4 eBk 123 W0.heap.size W bs ((List.range i).map fun b => (⟨some ⟨pp b, 0, none⟩, PN, cp b⟩, 0, 0, false)) ∧
      Mine eS 35 W0.heap.size W ls ((List.range i).map fun b => ⟨some ⟨ll b, 0, none⟩, PN, PN⟩) ∧ OldB W0.heap.size W PN i pp ll cp ds ∧ ∀ b b', b < b' → b' < i → pp b < pp b' ∧ ll b < ll b') (fun e _ => BN - e.2.2.1.toNat)
    ⟨0, nilS, nilS, fun _ => 0, fun _ => 0, fun _ => 0, fun _ _ => nilS, rfl, by omega, kept_refl _, MineN.nil, Mine.nil, ⟨by omega, by omega, by omega⟩, by omega⟩ ?_
  rintro e W ⟨i, bs, ls, pp, ll, cp, ds, rfl, hi, kW, hbs, hls, hold, hinj⟩ _
  refine rdI_of (hg.kept kW).2.1 ?_
  rw [hBN]
  have hsW := kW.size
  refine cond_of (fun hc => ?_) fun hc => ?_
  rotate_left
  · simp only [decide_eq_false_iff_not] at hc
    have : i = BN := by omega
    subst this
    rcases hbs.forms with ⟨_, h0⟩ | ⟨gb, cap, cur, h1, _⟩
    · have := congrArg List.length h0
      simp at this
      omega
    · simp only [List.length_map, List.length_range] at h1
      subst h1
      exact ⟨gb, cap, ls, pp, ll, cp, ds, rfl, kW, ⟨hbs, hls, hold⟩, hinj⟩
  simp only [decide_eq_true_eq] at hc
  have hiB : i < BN := by omega
  refine alW (cs := [.slice none 0 0, .int .i64 0, .int .i64 0, .bool false]) fun W1 hb1 k1 hlt1 => wr0 hb1 (by simp) fun W2 hb2 c2 => wrW hb2 1 (by simp) fun W3 hb3 c3 => wrW hb3 2 (by simp) fun W4 hb4 c4 => wrW hb4 3 (by simp) fun W5 hb5 c5 => ?_
  have k5 : Kept W W5 := k1.then (((c2.trans c3).trans c4).trans c5) fun x hx => by omega
  have hb5' : Blk W5 W.heap.size 123 [.slice none 0 0, .int .i64 0, .int .i64 0, .bool false] := hb5
  have hz5 : W.heap.size < W5.heap.size := hb5.lt
  clear hb1 hb2 hb3 hb4 hb5 c2 c3 c4 c5
  -- its pages
  refine joinT_of (fun _ V => ∃ (sP : Sl) (dp : Nat → Sl), Kept W V ∧ Blk V W.heap.size 123 [.slice sP.a sP.l sP.c, .int .i64 0, .int .i64 0, .bool false] ∧ Mine eS 22 (W.heap.size + 1) V sP ((List.range PN).map dp) ∧ ∀ p, p < PN → Mine eB 5 (W.heap.size + 1) V (dp p) blankL) ?_ ?_
  · refine loopT_of (fun e V => ∃ (q : Nat) (sP : Sl) (dp : Nat → Sl), e = ((q : Int), ()) ∧ q ≤ PN ∧ Kept W V ∧ W.heap.size < V.heap.size ∧ Blk V W.heap.size 123 [.slice sP.a sP.l sP.c, .int .i64 0, .int .i64 0, .bool false] ∧ Mine eS 22 (W.heap.size + 1) V sP ((List.range q).map dp) ∧ ∀ p, p < q → Mine eB 5 (W.heap.size + 1) V (dp p) blankL) (fun e _ => PN - e.1.toNat)
      ⟨0, nilS, fun _ => nilS, rfl, by omega, k5, hz5, hb5', Mine.nil, by omega⟩ ?_
    rintro e V ⟨q, sP, dp, rfl, hq, kV, hzV, hbV, hsV, hpV⟩ _
    refine rdI_of (hg.kept (kW.trans kV)).2.2 ?_
    rw [hPN]
    refine cond_of (fun hc2 => ?_) fun hc2 => ?_
    · simp only [decide_eq_true_eq] at hc2
      have hzd : V.drew.heap.size = V.heap.size := rfl
      have hbd := hbV.kept (kept_drew V)
      refine rdS_of (s := sP) (hbd.at 0 rfl) (ones_ok.mono ?_)
      rintro v V1 ⟨sb, rfl, kb, mb⟩
      simp only [decS_sl]
      refine rdS_of (s := sP) ((hbd.kept kb).at 0 rfl) ⟨rfl, ?_⟩
      refine alW (cs := [.slice sb.a sb.l sb.c]) fun V2 hy ky _ => ?_
      refine rdS_of (s := sP) (((hbd.kept kb).kept ky).at 0 rfl) ⟨rfl, ?_⟩
      have kall := (kept_drew V).trans (kb.trans ky)
      have hzs := kall.size
      refine raw_push szPg (enc := eS) (fun _ => rfl) (s := sP) (x := sb) (hsV.kept kall) hy (by omega) (by simp; omega) fun s' V3 g1 c3 g3 => ?_
      simp only [decS_sl]
      have hb3 := ((hbd.kept kb).kept ky).below g3 (by omega)
      have hz3 := g3.size
      refine wr0 hb3 (by simp) fun V4 hb4 c4 => ?_
      rw [int_next (by omega)]
      have o : OwnTy V2 sP 22 := Mine.own_ty (hsV.kept kall)
      refine ⟨⟨q + 1, s', fun p => if p = q then sb else dp p, rfl, by omega, ?_, by have := c4.size; omega, hb4, ?_, fun p hp => ?_⟩, by simp; omega⟩
      · exact (kept_below (kV.trans kall) g3 (by omega)).then c4 fun x hx => by omega
      · have e : (List.range (q + 1)).map (fun p => if p = q then sb else dp p) = (List.range q).map dp ++ [sb] := by
          rw [List.range_succ, List.map_append]
          congr 1
          · refine List.map_congr_left fun p hp => ?_
            have := List.mem_range.1 hp
            simp [show ¬ p = q by omega]
          · simp
        rw [e]
        exact g1.chg c4 (hb3.mine_ne g1 (by decide))
      · by_cases hpq : p = q
        · subst hpq
          simp only [if_true]
          have m := (mb.mono (show W.heap.size + 1 ≤ V.drew.heap.size by omega)).kept ky
          have m2 := m.chg c3 (o.mine m (by decide))
          exact m2.chg c4 (hb3.mine_ne m2 (by decide))
        · simp only [hpq, if_false]
          have m := (hpV p (by omega)).kept kall
          have m2 := m.chg c3 (o.mine m (by decide))
          exact m2.chg c4 (hb3.mine_ne m2 (by decide))
    · simp only [decide_eq_false_iff_not] at hc2
      have : q = PN := by omega
      subst this
      exact ⟨sP, dp, kV, hbV, hsV, hpV⟩
  rintro _ V ⟨sP, dp, kV, hbV, hsV, hpV⟩ _
  obtain ⟨pb, pcap, rfl⟩ : ∃ pb pcap, sP = ⟨some ⟨pb, 0, none⟩, PN, pcap⟩ := by
    rcases hsV.forms with ⟨_, h0⟩ | ⟨gb, cap, cur, h1, _⟩
    · have := congrArg List.length h0
      simp at this
      omega
    · exact ⟨gb, cap, by simpa using h1⟩
  have hpb := hsV.lt (b := ⟨pb, 0, none⟩) rfl
  dsimp only at hpb
  have hB0r : W0.heap.size ≤ W0.heap.size := Nat.le_refl _
  have kd := kept_drew V
  have hbl28 : ∀ {X : World} {rb : List Bk}, MineN 4 eBk 123 W0.heap.size W bs rb → ¬ ownF bs W.heap.size := fun m hf => by
    rcases m.forms with ⟨rfl, _⟩ | ⟨gb, cap, cur, rfl, _, h2, _⟩
    · simp [ownF, Value.ownBlock] at hf
    · simp [ownF, Value.ownBlock] at hf
      have := heap_lt h2
      omega
  have hbl28 := hbl28 (X := W) hbs
  have T : Tail W0.heap.size (W.heap.size + 1) V.drew p1 W.heap.size g PN i pp ll cp ds ⟨some ⟨pb, 0, none⟩, PN, pcap⟩ dp bs ((List.range i).map fun b => (⟨some ⟨pp b, 0, none⟩, PN, cp b⟩, 0, 0, false)) ls ((List.range i).map fun b => ⟨some ⟨ll b, 0, none⟩, PN, PN⟩) :=
    ⟨(hg.kept (kW.trans (kV.trans kd))), hp1, hbV.kept kd, hbs.kept (kV.trans kd), hls.kept (kV.trans kd), hold.kept (kV.trans kd), hsV.kept kd, fun p hp => (hpV p hp).kept kd⟩
  have kr : Kept W0 V.drew := kW.trans (kV.trans kd)
  have hWV : W.heap.size < V.drew.heap.size := hbV.lt
  have hlen : ((List.range i).map fun b => ((⟨some ⟨pp b, 0, none⟩, PN, cp b⟩, 0, 0, false) : Bk)).length ≤ 1000 := by simp; omega
  have hlen2 : ((List.range i).map fun b => (⟨some ⟨ll b, 0, none⟩, PN, PN⟩ : Sl)).length ≤ 1000 := by simp; omega
  have hllW : ∀ b, b < i → ll b < W.heap.size := fun b hb => ((hold.noi b hb).lt (b := ⟨ll b, 0, none⟩) rfl).2
  have hppW : ∀ b, b < i → pp b < W.heap.size := fun b hb => ((hold.pag b hb).lt (b := ⟨pp b, 0, none⟩) rfl).2
  -- what the round ends in
  have fin : ∀ (s1 s2 : Sl) (X : World) (c : Nat), Tail W0.heap.size (W.heap.size + 1) X p1 W.heap.size g PN i pp ll cp ds ⟨some ⟨pb, 0, none⟩, PN, pcap⟩ dp s1 (((List.range i).map fun b => (⟨some ⟨pp b, 0, none⟩, PN, cp b⟩, 0, 0, false)) ++ [(⟨some ⟨pb, 0, none⟩, PN, pcap⟩, 0, 0, false)]) s2 (((List.range i).map fun b => ⟨some ⟨ll b, 0, none⟩, PN, PN⟩) ++ [⟨some ⟨c, 0, none⟩, PN, PN⟩]) →
      Blk X c 23 (List.replicate PN (.slice none 0 0)) → V.drew.heap.size ≤ c → Kept W0 X → (fun (e : Sl × Sl × Int × Unit) (W : World) => ∃ (i : Nat) (bs ls : Sl) (pp ll : Nat → Nat) (cp : Nat → Nat) (ds : Nat → Nat → Sl), e = (bs, ls, (i : Int), ()) ∧ i ≤ BN ∧ Kept W0 W ∧ MineN 4 eBk 123 W0.heap.size W bs ((List.range i).map fun b => (⟨some ⟨pp b, 0, none⟩, PN, cp b⟩, 0, 0, false)) ∧
      Mine eS 35 W0.heap.size W ls ((List.range i).map fun b => ⟨some ⟨ll b, 0, none⟩, PN, PN⟩) ∧ OldB W0.heap.size W PN i pp ll cp ds ∧ ∀ b b', b < b' → b' < i → pp b < pp b' ∧ ll b < ll b') (s1, s2, IntKind.wrap .i64 ((i : Int) + 1), ()) X ∧ BN - ((s1, s2, IntKind.wrap .i64 ((i : Int) + 1), ()) : Sl × Sl × Int × Unit).2.2.1.toNat < BN - ((bs, ls, (i : Int), ()) : Sl × Sl × Int × Unit).2.2.1.toNat := by
    intro s1 s2 X c hT hC hcz kX
    rw [int_next (by omega)]
    refine ⟨⟨i + 1, s1, s2, fun b => if b = i then pb else pp b, fun b => if b = i then c else ll b, fun b => if b = i then pcap else cp b, fun b => if b = i then dp else ds b, rfl, by omega, kX, ?_, ?_, ⟨fun b hb => ?_, fun b hb => ?_, fun b p hb hp => ?_⟩, fun b b' hbb hb' => ?_⟩, by simp; omega⟩
    · refine hT.bsm.cast ?_
      rw [List.range_succ, List.map_append]
      congr 1
      · refine List.map_congr_left fun b hb => ?_
        have := List.mem_range.1 hb
        simp [show ¬ b = i by omega]
      · simp
    · refine hT.lsm.cast ?_
      rw [List.range_succ, List.map_append]
      congr 1
      · refine List.map_congr_left fun b hb => ?_
        have := List.mem_range.1 hb
        simp [show ¬ b = i by omega]
      · simp
    · by_cases hbi : b = i
      · subst hbi
        simp only [if_true]
        exact hT.cur.mono (by omega)
      · simp only [hbi, if_false]
        exact hT.old.pag b (by omega)
    · by_cases hbi : b = i
      · subst hbi
        simp only [if_true]
        have e : List.replicate PN (Value.slice none 0 0) = ((List.range PN).map fun _ => nilS).map eS := by simp [List.map_const', eS]
        rw [e] at hC
        have := hC.mine (base := W0.heap.size) (by omega) (by simp only [List.length_map, List.length_range, maxLen]; omega)
        simpa using this
      · simp only [hbi, if_false]
        exact hT.old.noi b (by omega)
    · by_cases hbi : b = i
      · subst hbi
        simp only [if_true]
        exact (hT.pgs p hp).mono (by omega)
      · simp only [hbi, if_false]
        exact hT.old.dat b p (by omega) hp
    · have h1 : ¬ b = i := by omega
      by_cases h2 : b' = i
      · subst h2
        simp only [if_true, h1, if_false]
        have := hppW b (by omega)
        have := hllW b (by omega)
        exact ⟨by omega, by omega⟩
      · simp only [h1, h2, if_false]
        exact hinj b b' hbb (by omega)
  have hszd : W0.heap.size ≤ V.drew.heap.size := kr.size
  clear hold hls hbs hsV hpV hbV hinj
  refine rdS_of (s := ⟨some ⟨pb, 0, none⟩, PN, pcap⟩) (T.loc.at 0 rfl) (rdI_of (T.loc.ad 1 rfl) (rdI_of (T.loc.ad 2 rfl) (rdB_of (T.loc.ad 3 rfl) (rdI_of T.geo.2.2 ?_))))
  rw [hPN]
  refine ⟨?_, ?_⟩
  · refine alW (cs := [.slice (some ⟨pb, 0, none⟩) PN pcap, .int .i64 0, .int .i64 0, .bool false]) fun WA hA kA _ => ?_
    replace T := T.kept kA
    replace kr := kr.trans kA
    have zA := kA.size
    refine rdI_of T.geo.2.2 ⟨by rw [hPN], ?_⟩
    refine ⟨?_, ?_⟩
    · refine T.appB hA (by omega) hbl28 hlen fun s1 WB T1 cB gB => ?_
      simp only [decS_sl]
      have zB := gB.size
      replace kr := kept_below kr gB hB0r
      replace T := T1
      refine rdI_of T.geo.2.2 ⟨by rw [hPN], ?_⟩
      refine ⟨by omega, by omega, by omega, by omega, ?_⟩
      simp only [Int.toNat_natCast, zeroRow_one]
      refine alW fun WC hC kC _ => ?_
      replace T := T.kept kC
      replace kr := kr.trans kC
      have zC := kC.size
      refine rdS_of (s := ⟨some ⟨pb, 0, none⟩, PN, pcap⟩) (T.loc.at 0 rfl) (rdI_of (T.loc.ad 1 rfl) (rdI_of (T.loc.ad 2 rfl) (rdB_of (T.loc.ad 3 rfl) ⟨rfl, ?_⟩)))
      refine alW (cs := [.slice (some ⟨_, 0, none⟩) PN PN]) fun WD hD kD _ => ?_
      replace T := T.kept kD
      replace kr := kr.trans kD
      have zD := kD.size
      replace hC := hC.kept kD
      refine rdS_of (s := ⟨some ⟨pb, 0, none⟩, PN, pcap⟩) (T.loc.at 0 rfl) (rdI_of (T.loc.ad 1 rfl) (rdI_of (T.loc.ad 2 rfl) (rdB_of (T.loc.ad 3 rfl) ⟨rfl, ?_⟩)))
      refine T.appE (t := ⟨some ⟨_, 0, none⟩, PN, PN⟩) hD (by omega) hlen2 fun s2 WE T2 cE gE => ?_
      simp only [decS_sl]
      exact fin _ _ _ _ T2 (hC.chg cE (T.ls_ne hC (by decide))) (by omega) (kept_below kr gE hB0r)
    · refine ⟨by omega, by omega, by omega, by omega, ?_⟩
      simp only [Int.toNat_natCast, zeroRow_one]
      refine alW fun WC hC kC _ => ?_
      replace T := T.kept kC
      replace kr := kr.trans kC
      have zC := kC.size
      replace hA := hA.kept kC
      refine rdS_of (s := ⟨some ⟨pb, 0, none⟩, PN, pcap⟩) (T.loc.at 0 rfl) (rdI_of (T.loc.ad 1 rfl) (rdI_of (T.loc.ad 2 rfl) (rdB_of (T.loc.ad 3 rfl) ⟨rfl, ?_⟩)))
      refine ⟨?_, ?_⟩
      · refine T.appB hA (by omega) hbl28 hlen fun s1 WB T1 cB gB => ?_
        simp only [decS_sl]
        have zB := gB.size
        replace hC := hC.chg cB (T.bs_ne hC (by decide))
        replace kr := kept_below kr gB hB0r
        replace T := T1
        refine rdI_of T.geo.2.2 ⟨by rw [hPN], ?_⟩
        refine alW (cs := [.slice (some ⟨_, 0, none⟩) PN PN]) fun WD hD kD _ => ?_
        replace T := T.kept kD
        replace kr := kr.trans kD
        have zD := kD.size
        replace hC := hC.kept kD
        refine rdS_of (s := ⟨some ⟨pb, 0, none⟩, PN, pcap⟩) (T.loc.at 0 rfl) (rdI_of (T.loc.ad 1 rfl) (rdI_of (T.loc.ad 2 rfl) (rdB_of (T.loc.ad 3 rfl) ⟨rfl, ?_⟩)))
        refine T.appE (t := ⟨some ⟨_, 0, none⟩, PN, PN⟩) hD (by omega) hlen2 fun s2 WE T2 cE gE => ?_
        simp only [decS_sl]
        exact fin _ _ _ _ T2 (hC.chg cE (T.ls_ne hC (by decide))) (by omega) (kept_below kr gE hB0r)
      · refine alW (cs := [.slice (some ⟨_, 0, none⟩) PN PN]) fun WD hD kD _ => ?_
        replace T := T.kept kD
        replace kr := kr.trans kD
        have zD := kD.size
        replace hC := hC.kept kD
        replace hA := hA.kept kD
        refine rdS_of (s := ⟨some ⟨pb, 0, none⟩, PN, pcap⟩) (T.loc.at 0 rfl) (rdI_of (T.loc.ad 1 rfl) (rdI_of (T.loc.ad 2 rfl) (rdB_of (T.loc.ad 3 rfl) ⟨rfl, ?_⟩)))
        refine T.appB hA (by omega) hbl28 hlen fun s1 WB T1 cB gB => ?_
        simp only [decS_sl]
        have zB := gB.size
        replace hC := hC.chg cB (T.bs_ne hC (by decide))
        replace hD := hD.chg cB (T.bs_ne hD (by decide))
        replace kr := kept_below kr gB hB0r
        replace T := T1
        refine rdI_of T.geo.2.2 ⟨by rw [hPN], ?_⟩
        refine T.appE (t := ⟨some ⟨_, 0, none⟩, PN, PN⟩) hD (by omega) hlen2 fun s2 WE T2 cE gE => ?_
        simp only [decS_sl]
        exact fin _ _ _ _ T2 (hC.chg cE (T.ls_ne hC (by decide))) (by omega) (kept_below kr gE hB0r)
  · refine ⟨by omega, by omega, by omega, by omega, ?_⟩
    simp only [Int.toNat_natCast, zeroRow_one]
    refine alW fun WC hC kC _ => ?_
    replace T := T.kept kC
    replace kr := kr.trans kC
    have zC := kC.size
    refine rdS_of (s := ⟨some ⟨pb, 0, none⟩, PN, pcap⟩) (T.loc.at 0 rfl) (rdI_of (T.loc.ad 1 rfl) (rdI_of (T.loc.ad 2 rfl) (rdB_of (T.loc.ad 3 rfl) ⟨rfl, ?_⟩)))
    refine ⟨?_, ?_⟩
    · refine alW (cs := [.slice (some ⟨pb, 0, none⟩) PN pcap, .int .i64 0, .int .i64 0, .bool false]) fun WA hA kA _ => ?_
      replace T := T.kept kA
      replace kr := kr.trans kA
      have zA := kA.size
      replace hC := hC.kept kA
      refine rdI_of T.geo.2.2 ⟨by rw [hPN], ?_⟩
      refine ⟨?_, ?_⟩
      · refine T.appB hA (by omega) hbl28 hlen fun s1 WB T1 cB gB => ?_
        simp only [decS_sl]
        have zB := gB.size
        replace hC := hC.chg cB (T.bs_ne hC (by decide))
        replace kr := kept_below kr gB hB0r
        replace T := T1
        refine rdI_of T.geo.2.2 ⟨by rw [hPN], ?_⟩
        refine alW (cs := [.slice (some ⟨_, 0, none⟩) PN PN]) fun WD hD kD _ => ?_
        replace T := T.kept kD
        replace kr := kr.trans kD
        have zD := kD.size
        replace hC := hC.kept kD
        refine rdS_of (s := ⟨some ⟨pb, 0, none⟩, PN, pcap⟩) (T.loc.at 0 rfl) (rdI_of (T.loc.ad 1 rfl) (rdI_of (T.loc.ad 2 rfl) (rdB_of (T.loc.ad 3 rfl) ⟨rfl, ?_⟩)))
        refine T.appE (t := ⟨some ⟨_, 0, none⟩, PN, PN⟩) hD (by omega) hlen2 fun s2 WE T2 cE gE => ?_
        simp only [decS_sl]
        exact fin _ _ _ _ T2 (hC.chg cE (T.ls_ne hC (by decide))) (by omega) (kept_below kr gE hB0r)
      · refine alW (cs := [.slice (some ⟨_, 0, none⟩) PN PN]) fun WD hD kD _ => ?_
        replace T := T.kept kD
        replace kr := kr.trans kD
        have zD := kD.size
        replace hC := hC.kept kD
        replace hA := hA.kept kD
        refine rdS_of (s := ⟨some ⟨pb, 0, none⟩, PN, pcap⟩) (T.loc.at 0 rfl) (rdI_of (T.loc.ad 1 rfl) (rdI_of (T.loc.ad 2 rfl) (rdB_of (T.loc.ad 3 rfl) ⟨rfl, ?_⟩)))
        refine T.appB hA (by omega) hbl28 hlen fun s1 WB T1 cB gB => ?_
        simp only [decS_sl]
        have zB := gB.size
        replace hC := hC.chg cB (T.bs_ne hC (by decide))
        replace hD := hD.chg cB (T.bs_ne hD (by decide))
        replace kr := kept_below kr gB hB0r
        replace T := T1
        refine rdI_of T.geo.2.2 ⟨by rw [hPN], ?_⟩
        refine T.appE (t := ⟨some ⟨_, 0, none⟩, PN, PN⟩) hD (by omega) hlen2 fun s2 WE T2 cE gE => ?_
        simp only [decS_sl]
        exact fin _ _ _ _ T2 (hC.chg cE (T.ls_ne hC (by decide))) (by omega) (kept_below kr gE hB0r)
    · refine alW (cs := [.slice (some ⟨_, 0, none⟩) PN PN]) fun WD hD kD _ => ?_
      replace T := T.kept kD
      replace kr := kr.trans kD
      have zD := kD.size
      replace hC := hC.kept kD
      refine rdS_of (s := ⟨some ⟨pb, 0, none⟩, PN, pcap⟩) (T.loc.at 0 rfl) (rdI_of (T.loc.ad 1 rfl) (rdI_of (T.loc.ad 2 rfl) (rdB_of (T.loc.ad 3 rfl) ⟨rfl, ?_⟩)))
      refine alW (cs := [.slice (some ⟨pb, 0, none⟩) PN pcap, .int .i64 0, .int .i64 0, .bool false]) fun WA hA kA _ => ?_
      replace T := T.kept kA
      replace kr := kr.trans kA
      have zA := kA.size
      replace hC := hC.kept kA
      replace hD := hD.kept kA
      refine rdI_of T.geo.2.2 ⟨by rw [hPN], ?_⟩
      refine T.appB hA (by omega) hbl28 hlen fun s1 WB T1 cB gB => ?_
      simp only [decS_sl]
      have zB := gB.size
      replace hC := hC.chg cB (T.bs_ne hC (by decide))
      replace hD := hD.chg cB (T.bs_ne hD (by decide))
      replace kr := kept_below kr gB hB0r
      replace T := T1
      refine rdI_of T.geo.2.2 ⟨by rw [hPN], ?_⟩
      refine T.appE (t := ⟨some ⟨_, 0, none⟩, PN, PN⟩) hD (by omega) hlen2 fun s2 WE T2 cE gE => ?_
      simp only [decS_sl]
      exact fin _ _ _ _ T2 (hC.chg cE (T.ls_ne hC (by decide))) (by omega) (kept_below kr gE hB0r)
end Go.Proofs.Ytppfnkedbpmliaa
