/- Nothing is proved of the program here: one operation, as the words of Core read it, is what the model carries out. -/
import Derived.Test.YtppfnkedbpmliaaCore
namespace Go.Rk
open Go

def Res (P : Program) (K : Value → World → Prop) : Result Next → Prop
  | .ok (.value v) w' => K v w'
  | .ok .skip w' => K undef w'
  | .ok (.enter f args) w' => Ok P f args.toList w' K
  | .ok (.round l f tmps assign body) w' => RndOk P l f tmps assign body w' K
  | _ => False

theorem Res.of1 {P : Program} {K : Value → World → Prop} {x : Result Next} (h : Res1 K x) : Res P K x := by
  unfold Res1 at h
  split at h <;> first | exact h | exact h.elim

theorem Ok.mono {P : Program} {f : FuncId} {args : List Value} {w : World} {K K' : Value → World → Prop} (h : Ok P f args w K) (hk : ∀ v w', K v w' → K' v w') : Ok P f args w K' :=
  ⟨h.1, h.2.mono fun _ _ ⟨v, e, k⟩ => ⟨v, e, hk _ _ k⟩⟩
theorem RndOk.mono {P : Program} {l : Nat} {f : FuncId} {tmps : Array Value} {assign body : Code} {w : World} {K K' : Value → World → Prop} (h : RndOk P l f tmps assign body w K)
    (hk : ∀ v w', K v w' → K' v w') : RndOk P l f tmps assign body w K' :=
  RoundIn.mono h fun _ _ ⟨v, e, k⟩ => ⟨v, e, hk _ _ k⟩
theorem OkY.mono {P : Program} {l : Nat} {args : List Value} {w : World} {K K' : Value → World → Prop} (h : OkY P l args w K) (hk : ∀ v w', K v w' → K' v w') : OkY P l args w K' := by
  obtain ⟨f, tmps, assign, body, h1, h2⟩ := h
  exact ⟨f, tmps, assign, body, h1, h2.mono hk⟩
theorem OkV.mono {P : Program} {fv : Value} {args : List Value} {w : World} {K K' : Value → World → Prop} (h : OkV P fv args w K) (hk : ∀ v w', K v w' → K' v w') : OkV P fv args w K' := by
  unfold OkV at *
  split <;> first | exact Ok.mono (by simpa using h) hk | exact OkY.mono (by simpa using h) hk | (simp_all; done)

section kinds
theorem decI_out {q : IntKind} {x : Value} {K : Int → Prop} (h : decI q x K) : ∃ n, x = .int q n ∧ K n := by
  unfold decI at h; split at h
  · split at h
    · subst_vars; exact ⟨_, rfl, h⟩
    · exact h.elim
  · exact h.elim
theorem decB_out {x : Value} {K : Bool → Prop} (h : decB x K) : ∃ n, x = .bool n ∧ K n := by
  unfold decB at h; split at h
  · exact ⟨_, rfl, h⟩
  · exact h.elim
theorem decP_out {x : Value} {K : Option Addr → Prop} (h : decP x K) : ∃ n, x = .pointer n ∧ K n := by
  unfold decP at h; split at h
  · exact ⟨_, rfl, h⟩
  · exact h.elim
theorem decS_out {x : Value} {K : Sl → Prop} (h : decS x K) : ∃ n : Sl, x = n.v ∧ K n := by
  unfold decS at h; split at h
  · exact ⟨⟨_, _, _⟩, rfl, h⟩
  · exact h.elim
theorem decY_out {x : Value} {K : ByteArray → Prop} (h : decY x K) : ∃ n, x = .string n ∧ K n := by
  unfold decY at h; split at h
  · exact ⟨_, rfl, h⟩
  · exact h.elim
theorem decA_out {x : Value} {K : Addr → Prop} (h : decA x K) : ∃ n, x = .pointer (some n) ∧ K n := by
  unfold decA at h; split at h
  · exact ⟨_, rfl, h⟩
  · exact h.elim
theorem Kb.dec_out {k : Kb} {x : Value} {K : k.D → Prop} (h : k.dec x K) : ∃ d, x = k.enc d ∧ K d := by
  cases k <;> simp only [Kb.dec] at h
  · exact decI_out h
  · exact decB_out h
  · exact decP_out h
  · exact decS_out h
  · exact ⟨x, rfl, h⟩
  · exact decY_out h
  · exact decA_out h
theorem decs_out : ∀ {ks : List Kb} {xs : List Value} {K : Dn ks → Prop}, decs ks xs K → ∃ d, xs = encs ks d ∧ K d
  | [], [], _, h => ⟨(), rfl, h⟩
  | [], _ :: _, _, h => by simp [decs] at h
  | _ :: _, [], _, h => by simp [decs] at h
  | k :: ks, x :: xs, K, h => by
    simp only [decs] at h
    obtain ⟨d, e, h2⟩ := Kb.dec_out h
    obtain ⟨ds, e2, h3⟩ := decs_out h2
    exact ⟨(d, ds), by rw [e, e2]; rfl, h3⟩
theorem decG_out {ks : List Kb} {x : Value} {K : Dn ks → Prop} (h : decG ks x K) : ∃ d, x = .agg (encs ks d).toArray ∧ K d := by
  unfold decG at h
  split at h
  · obtain ⟨d, e, h⟩ := decs_out h
    exact ⟨d, by rw [← e], h⟩
  · exact h.elim
theorem decR_out {x : Value} {K : Array Value → Prop} (h : decR x K) : ∃ cs, x = .agg cs ∧ K cs := by
  unfold decR at h; split at h
  · exact ⟨_, rfl, h⟩
  · exact h.elim
theorem Kd.dec1_out {k : Kd} {x : Value} {K : Value → Prop} (h : k.dec1 x K) : K x := by
  unfold Kd.dec1 at h
  split at h
  · exact h
  · obtain ⟨d, e, h2⟩ := Kb.dec_out h; rw [e]; exact h2
  · obtain ⟨d, e, h2⟩ := decG_out h; rw [e]; exact h2
  · obtain ⟨d, e, h2⟩ := decR_out h; rw [e]; exact h2
  · exact h.elim
theorem dec2_out {x : Value} {K : Value → Value → Prop} (h : dec2 x K) : ∃ a b, x = .tuple #[a, b] ∧ K a b := by
  unfold dec2 at h; split at h
  · split at h
    · rename_i cs _ a b e
      exact ⟨a, b, by rw [← Array.toArray_toList (xs := cs), e], h⟩
    · exact h.elim
  · exact h.elim
theorem dec3_out {x : Value} {K : Value → Value → Value → Prop} (h : dec3 x K) : ∃ a b c, x = .tuple #[a, b, c] ∧ K a b c := by
  unfold dec3 at h; split at h
  · split at h
    · rename_i cs _ a b c e
      exact ⟨a, b, c, by rw [← Array.toArray_toList (xs := cs), e], h⟩
    · exact h.elim
  · exact h.elim
theorem Kd.norm_out {k : Kd} {x : Value} {K : Value → Prop} (h : k.norm x K) : K x := by
  unfold Kd.norm at h
  split at h
  · obtain ⟨a, b, rfl, h⟩ := dec2_out h
    exact Kd.dec1_out (K := fun b => K (.tuple #[a, b])) (Kd.dec1_out (K := fun a => Kd.dec1 _ b fun b => K (.tuple #[a, b])) h)
  · obtain ⟨a, b, c, rfl, h⟩ := dec3_out h
    exact Kd.dec1_out (K := fun c => K (.tuple #[a, b, c])) (Kd.dec1_out (K := fun b => Kd.dec1 _ c fun c => K (.tuple #[a, b, c])) (Kd.dec1_out (K := fun a => Kd.dec1 _ b fun b => Kd.dec1 _ c fun c => K (.tuple #[a, b, c])) h))
  · exact h
  · exact Kd.dec1_out h
end kinds

section memory
variable {P : Program} {w : World}
theorem rd_out {k : Kb} {a : Addr} {K : k.D → Prop} (h : rd k w a K) : ∃ d, w.cell? a = some (k.enc d) ∧ K d := by
  cases k <;> simp only [rd, rdI, rdB, rdP, rdS, rdV, rdY, rdA] at h <;> split at h <;> first | exact h.elim | skip
  · rename_i x hx; obtain ⟨n, e, h2⟩ := decI_out h; exact ⟨n, by rw [hx, e]; rfl, h2⟩
  · rename_i x hx; obtain ⟨n, e, h2⟩ := decB_out h; exact ⟨n, by rw [hx, e]; rfl, h2⟩
  · rename_i x hx; obtain ⟨n, e, h2⟩ := decP_out h; exact ⟨n, by rw [hx, e]; rfl, h2⟩
  · rename_i x hx; obtain ⟨n, e, h2⟩ := decS_out h; exact ⟨n, by rw [hx, e]; rfl, h2⟩
  · rename_i x hx; exact ⟨x, hx, h⟩
  · rename_i x hx; obtain ⟨n, e, h2⟩ := decY_out h; exact ⟨n, by rw [hx, e]; rfl, h2⟩
  · rename_i x hx; obtain ⟨n, e, h2⟩ := decA_out h; exact ⟨n, by rw [hx, e]; rfl, h2⟩
theorem run_load_some {a : Addr} {v : Value} (h : w.cell? a = some v) : (load a).run P w = .ok v w := by simp [run_load, h]
theorem loadCellsFrom_run (a : Addr) : ∀ (n i : Nat) (acc : Array Value) (vs : List Value), vs.length = n → (∀ j, j < n → w.cell? (a.add (i + j)) = vs[j]?) →
    (loadCellsFrom a i n acc).run P w = .ok (acc ++ vs.toArray) w
  | 0, _, acc, vs, hl, _ => by
    cases vs with
    | nil => simp [loadCellsFrom]
    | cons _ _ => simp at hl
  | n + 1, i, acc, vs, hl, h => by
    cases vs with
    | nil => simp at hl
    | cons v vs =>
      have h0 := h 0 (by omega)
      simp only [Nat.add_zero, List.getElem?_cons_zero] at h0
      have := loadCellsFrom_run a n (i + 1) (acc.push v) vs (by simpa using hl) (fun j hj => by
        have := h (j + 1) (by omega)
        simpa [Nat.add_assoc, Nat.add_comm 1 j] using this)
      simp only [loadCellsFrom, Sem.run_bind, run_load_some h0, Result.andThen, this]
      simp
theorem rds_out {a : Addr} : ∀ {ks : List Kb} {i : Nat} {K : Dn ks → Prop}, rds ks w a i K → ∃ d, (∀ j, j < ks.length → w.cell? (a.add (i + j)) = (encs ks d)[j]?) ∧ (encs ks d).length = ks.length ∧ K d
  | [], i, K, h => ⟨(), fun j hj => by simp at hj, rfl, h⟩
  | k :: ks, i, K, h => by
    simp only [rds] at h
    obtain ⟨d, hd, h⟩ := rd_out h
    obtain ⟨ds, hds, hl, h⟩ := rds_out h
    refine ⟨(d, ds), fun j hj => ?_, by simp [encs, hl], h⟩
    cases j with
    | zero => simpa [encs] using hd
    | succ j =>
      have := hds j (by simpa using hj)
      simpa [encs, Nat.add_assoc, Nat.add_comm 1 j] using this
theorem info_of_underlying {t : TypeId} {d : TypeDesc} (h : P.underlying t = some d) : ∃ i, P.info? t = some i ∧ P.cellsOf t = i.size := by
  unfold Program.underlying at h
  cases hi : P.info? t with
  | none => simp [hi] at h
  | some i => exact ⟨i, rfl, by simp [Program.cellsOf, hi]⟩
theorem run_underlying_some {t : TypeId} {d : TypeDesc} (h : P.underlying t = some d) : (underlying t).run P w = .ok d w := by
  simp [underlying, program, Sem.run, h]
theorem run_typeInfo_some {t : TypeId} {i : TypeInfo} (h : P.info? t = some i) : (typeInfo t).run P w = .ok i w := by
  simp [typeInfo, program, Sem.run, h]
theorem run_sizeOf_some {t : TypeId} {i : TypeInfo} (h : P.info? t = some i) : (sizeOf t).run P w = .ok i.size w := by
  simp [sizeOf, run_typeInfo_some h]
theorem run_zeroValue_some {t : TypeId} {i : TypeInfo} {z : Value} (h : P.info? t = some i) (hz : i.zero = some z) : (zeroValue t).run P w = .ok z w := by
  simp [zeroValue, run_typeInfo_some h, hz]
theorem run_isAgg {t : TypeId} {d : TypeDesc} (h : P.underlying t = some d) : (isAgg t).run P w = .ok (aggDesc d) w := by
  simp only [isAgg, Sem.run_bind, run_underlying_some h, Result.andThen]
  cases d <;> rfl
theorem loadCells_run {a : Addr} {n : Nat} {vs : List Value} (hl : vs.length = n) (h : ∀ j, j < n → w.cell? (a.add j) = vs[j]?) : (loadCells a n).run P w = .ok vs.toArray w := by
  have := loadCellsFrom_run (P := P) (w := w) a n 0 #[] vs hl (fun j hj => by simpa using h j hj)
  simpa [loadCells] using this
theorem loadVar_agg {t : TypeId} {d : TypeDesc} {a : Addr} {cs : Array Value} (h : P.underlying t = some d) (hd : aggDesc d = true) (hl : cs.size = P.cellsOf t)
    (hc : ∀ j, j < P.cellsOf t → w.cell? (a.add j) = cs[j]?) : (loadVar t a).run P w = .ok (.agg cs) w := by
  obtain ⟨i, hi, hs⟩ := info_of_underlying h
  rw [hs] at hl hc
  have := loadCells_run (P := P) (w := w) (a := a) (n := i.size) (vs := cs.toList) (by simpa using hl) (fun j hj => by simpa using hc j hj)
  simp only [loadVar, Sem.run_bind, run_isAgg h, Result.andThen, hd, if_true, run_sizeOf_some hi, this]
  simp
theorem rdT_out {t : TypeId} {a : Addr} {K : Value → Prop} (h : rdT P t w a K) : ∃ v, (loadVar t a).run P w = .ok v w ∧ K v := by
  have big : ∀ d, P.underlying t = some d → aggDesc d = true →
      (match leaves P 8 t with
       | some ks => if ks.length = P.cellsOf t then rds ks w a 0 fun d => K (.agg (encs ks d).toArray) else False
       | none => rdR w a (P.cellsOf t) fun cs => K (.agg cs)) → ∃ v, (loadVar t a).run P w = .ok v w ∧ K v := by
    intro d hu hd h
    split at h
    · rename_i ks hk
      split at h
      · rename_i hlen
        obtain ⟨ds, h1, h2, h3⟩ := rds_out h
        exact ⟨_, loadVar_agg hu hd (by simpa [h2] using hlen) (fun j hj => by simpa using h1 j (by omega)), h3⟩
      · exact h.elim
    · obtain ⟨cs, h1, h2, h3⟩ := h
      exact ⟨_, loadVar_agg hu hd h1 h2, h3⟩
  have small : ∀ d, P.underlying t = some d → aggDesc d = false →
      (match leaves P 8 t with
       | some [k] => rd k w a fun d => K (k.enc d)
       | _ => False) → ∃ v, (loadVar t a).run P w = .ok v w ∧ K v := by
    intro d hu hd h
    split at h
    · obtain ⟨x, h1, h2⟩ := rd_out h
      exact ⟨_, by simp [loadVar, run_isAgg hu, hd, h1], h2⟩
    · exact h.elim
  unfold rdT at h
  split at h
  · rename_i hu; exact big _ hu rfl h
  · rename_i hu; exact big _ hu rfl h
  · rename_i x h1 h2 hu
    refine small _ hu ?_ h
    cases x <;> first | rfl | exact absurd rfl (h1 _) | exact absurd rfl (h2 _ _)
  · exact h.elim
theorem run_store_lone {a : Addr} {u v : Value} (hl : lone1 v = true) (hc : w.cell? a = some u) (hf : w.frozen? a = false) : (store a v).run P w = .ok () (w.setCell a v) := by
  cases v <;> simp [lone1] at hl <;> simp [store, Sem.run, hc, hf]
theorem storeCells_one {a : Addr} {v : Value} {vs : List Value} {i : Nat} {u : Value} (hl : lone1 v = true) (hc : w.cell? (a.add i) = some u) (hf : w.frozen? (a.add i) = false) :
    (storeCells a (v :: vs) i).run P w = (storeCells a vs (i + 1)).run P (w.setCell (a.add i) v) := by
  simp [storeCells, run_store_lone hl hc hf]
theorem wrs_out {a : Addr} : ∀ {vs : List Value} {w : World} {i : Nat} {K : World → Prop}, wrs w a vs i K → ∃ w', (storeCells a vs i).run P w = .ok () w' ∧ K w'
  | [], w, i, K, h => ⟨w, by simp [storeCells], h⟩
  | v :: vs, w, i, K, h => by
    simp only [wrs] at h
    split at h
    · rename_i hl
      obtain ⟨⟨u, hu⟩, hf, h⟩ := h
      obtain ⟨w', h1, h2⟩ := wrs_out h
      exact ⟨w', by rw [storeCells_one hl hu hf]; exact h1, h2⟩
    · exact h.elim
theorem stT_out {t : TypeId} {a : Addr} {v : Value} {K : World → Prop} (ht : (P.info? t).isSome = true) (h : stT P t w a v K) : ∃ w', (storeVar t a v).run P w = .ok () w' ∧ K w' := by
  obtain ⟨i, hi⟩ := Option.isSome_iff_exists.1 ht
  have hs : P.cellsOf t = i.size := by simp [Program.cellsOf, hi]
  unfold stT at h
  split at h
  · rename_i cs
    split at h
    · rename_i hl
      obtain ⟨w', h1, h2⟩ := wrs_out (P := P) h
      refine ⟨w', ?_, h2⟩
      have : (Value.agg cs).cells.size = i.size := by rw [← hs, ← hl]; simp [Value.cells]
      simp only [storeVar, Sem.run_bind, run_sizeOf_some hi, Result.andThen, this, ne_eq, not_true_eq_false, if_false]
      simpa [Value.cells] using h1
    · exact h.elim
  · rename_i hv
    split at h
    · rename_i hl
      unfold wr1 at h
      split at h
      · rename_i hlone
        obtain ⟨⟨u, hu⟩, hf, h⟩ := h
        have hc : v.cells = #[v] := by cases v <;> first | rfl | (exfalso; exact hv _ rfl)
        have h1 := storeCells_one (P := P) (vs := []) hlone hu hf
        refine ⟨_, ?_, h⟩
        have hsz : i.size = 1 := by rw [← hs, hl]
        simp only [storeVar, Sem.run_bind, run_sizeOf_some hi, Result.andThen, hsz, ne_eq, hc]
        simpa [storeCells] using h1
      · exact h.elim
    · exact h.elim
end memory
end Go.Rk
