/- Flash as numbers and lists (the document's chapter 7). No program in sight. -/
import Derived.Test.YtppfnkedbpmliaaGD
set_option linter.unusedVariables false
set_option linter.unusedSimpArgs false
namespace Go.Proofs.Ytppfnkedbpmliaa
open Go Go.Rk

abbrev Byt := BitVec 8
/-- Flash. -/
structure Nd where
  g : Geo
  data : Nat → Nat → Nat → List Byt
  noise : Nat → Nat → Nat → List Int
  next : Nat → Nat → Int
  era : Nat → Nat → Int
  bad : Nat → Nat → Bool
  stop : Int
  mask : List Byt
  dead : Bool
  ops : Int
  wrong : Int
def blankL : List Byt := List.replicate 60 255#8
/-- Old bytes, but where a mask says that they are new. -/
def mixB (o n m : Byt) : Byt := (o &&& ~~~m) ||| (n &&& m)
def mixL (old now mask : List Byt) : List Byt :=
  if old.length = now.length then (if mask.length = 0 then old else old.mapIdx fun i x => mixB x (now.getD i 0#8) (mask.getD (i % mask.length) 0#8)) else []
def upd2 {α : Type} (f : Nat → Nat → α) (d b : Nat) (v : α) : Nat → Nat → α := fun d' b' => if d' = d ∧ b' = b then v else f d' b'
def upd3 {α : Type} (f : Nat → Nat → Nat → α) (d b p : Nat) (v : α) : Nat → Nat → Nat → α := fun d' b' p' => if d' = d ∧ b' = b ∧ p' = p then v else f d' b' p'
abbrev wr64 (n : Int) : Int := IntKind.wrap .i64 n
/-- Numbers of a list that is not long. -/
def Few (l : List Int) : Prop := l.length ≤ 100000000 ∧ ∀ x ∈ l, x ≤ 9223372036854775807
theorem Few.nil : Few [] := ⟨by simp, by simp⟩
namespace Nd
def there (st : Nd) (d b : Int) : Bool := decide (0 ≤ d) && decide (d < st.g.1) && (decide (0 ≤ b) && decide (b < st.g.2.1))
def page (st : Nd) (d b p : Int) : Bool := st.there d b && (decide (0 ≤ p) && decide (p < st.g.2.2.1))
def isBad (st : Nd) (d b : Int) : Bool := st.there d b && st.bad d.toNat b.toNat
def erases (st : Nd) (d b : Int) : Int := if st.there d b then st.era d.toNat b.toNat else 0
def askE (st : Nd) (fine : Bool) : Int := if st.dead then 8 else if fine then 0 else 1
def ask (st : Nd) (fine : Bool) : Nd := if st.dead then st else if fine then { st with ops := wr64 (st.ops + 1) } else { st with wrong := wr64 (st.wrong + 1) }
def goes (st : Nd) : Bool := if st.stop < 1 then false else (wr64 (st.stop - 1) == 0)
def went (st : Nd) : Nd := if st.stop < 1 then st else { st with stop := wr64 (st.stop - 1), dead := wr64 (st.stop - 1) == 0 }
def readFine (st : Nd) (d b p : Int) : Bool := st.page d b p && !st.isBad d b
def readE (st : Nd) (d b p : Int) : Int := st.askE (st.readFine d b p)
def readS (st : Nd) (d b p : Int) : Nd := st.ask (st.readFine d b p)
def readB (st : Nd) (d b p : Int) : List Byt := if st.readE d b p = 0 then flips (st.data d.toNat b.toNat p.toNat) (st.noise d.toNat b.toNat p.toNat) else []
def progFine (st : Nd) (d b p : Int) (n : Nat) : Bool := st.page d b p && !st.isBad d b && (decide (n = 60) && (st.next d.toNat b.toNat == p))
def progE (st : Nd) (d b p : Int) (n : Nat) : Int :=
  if st.askE (st.progFine d b p n) = 0 then (if st.goes then 8 else 0) else st.askE (st.progFine d b p n)
/-- A page is written, the power going or not. -/
def put (st : Nd) (d b p : Nat) (bs : List Byt) : Nd :=
  let s1 := { st with next := upd2 st.next d b (wr64 (st.next d b + 1)) }
  { s1.went with data := upd3 st.data d b p (if s1.goes then mixL blankL bs st.mask else bs) }
def prog (st : Nd) (d b p : Int) (bs : List Byt) : Nd :=
  if st.askE (st.progFine d b p bs.length) = 0 then (st.ask (st.progFine d b p bs.length)).put d.toNat b.toNat p.toNat bs else st.ask (st.progFine d b p bs.length)
def eraFine (st : Nd) (d b : Int) : Bool := st.there d b && !st.isBad d b
def eraseE (st : Nd) (d b : Int) : Int := if st.askE (st.eraFine d b) = 0 then (if st.goes then 8 else 0) else st.askE (st.eraFine d b)
def wipe (st : Nd) (d b : Nat) : Nd :=
  let s1 := { st with era := upd2 st.era d b (wr64 (st.era d b + 1)) }
  { s1.went with
    data := fun d' b' p' => if d' = d ∧ b' = b then (if s1.goes then mixL (st.data d b p') blankL st.mask else blankL) else st.data d' b' p'
    next := if s1.goes then st.next else upd2 st.next d b 0 }
def erase (st : Nd) (d b : Int) : Nd := if st.askE (st.eraFine d b) = 0 then (st.ask (st.eraFine d b)).wipe d.toNat b.toNat else st.ask (st.eraFine d b)
def setNoise (st : Nd) (d b p : Int) (l : List Int) : Nd := if st.page d b p then { st with noise := upd3 st.noise d.toNat b.toNat p.toNat l } else st
def noiseE (st : Nd) (d b p : Int) : Int := if st.page d b p then 0 else 1
def setStop (st : Nd) (k : Int) (m : List Byt) : Nd := { st with stop := max k 0, mask := m }
def power (st : Nd) : Nd := { st with stop := 0, mask := [], dead := false }
def new (g : Geo) (bad : List (Int × Int)) : Nd :=
  { g := g, data := fun _ _ _ => blankL, noise := fun _ _ _ => [], next := fun _ _ => 0, era := fun _ _ => 0, bad := fun d b => decide (((d : Int), (b : Int)) ∈ bad), stop := 0, mask := [], dead := false, ops := 0, wrong := 0 }
/-- The bounds that all keep. -/
structure Ok (st : Nd) : Prop where
  geo : fits st.g = true
  page : ∀ d b p, (st.data d b p).length = 60
  noise : ∀ d b p, Few (st.noise d b p)
  mask : st.mask.length ≤ 1000000000
theorem Ok.bounds {st : Nd} (h : Ok st) : 6 ≤ st.g.1 ∧ st.g.1 ≤ 8 ∧ 8 ≤ st.g.2.1 ∧ st.g.2.1 ≤ 12 ∧ 4 ≤ st.g.2.2.1 ∧ st.g.2.2.1 ≤ 8 := fits_bounds h.geo
theorem there_iff {st : Nd} {d b : Int} : st.there d b = true ↔ 0 ≤ d ∧ d < st.g.1 ∧ 0 ≤ b ∧ b < st.g.2.1 := by
  simp [there]; omega
theorem page_iff {st : Nd} {d b p : Int} : st.page d b p = true ↔ st.there d b = true ∧ 0 ≤ p ∧ p < st.g.2.2.1 := by
  simp [page]
end Nd
theorem blankL_len : blankL.length = 60 := by simp [blankL]
theorem mixL_len {a b m : List Byt} (h : a.length = b.length) : (mixL a b m).length = a.length := by
  unfold mixL
  rw [if_pos h]
  split <;> simp
namespace Nd
theorem Ok.ask {st : Nd} (h : Ok st) (f : Bool) : Ok (st.ask f) := by
  unfold Nd.ask
  split
  · exact h
  · split <;> exact ⟨h.geo, h.page, h.noise, h.mask⟩
theorem Ok.went {st : Nd} (h : Ok st) : Ok st.went := by
  unfold Nd.went
  split
  · exact h
  · exact ⟨h.geo, h.page, h.noise, h.mask⟩
theorem went_g (st : Nd) : st.went.g = st.g := by unfold Nd.went; split <;> rfl
theorem went_noise (st : Nd) : st.went.noise = st.noise := by unfold Nd.went; split <;> rfl
theorem went_mask (st : Nd) : st.went.mask = st.mask := by unfold Nd.went; split <;> rfl
theorem went_data (st : Nd) : st.went.data = st.data := by unfold Nd.went; split <;> rfl
theorem went_next (st : Nd) : st.went.next = st.next := by unfold Nd.went; split <;> rfl
theorem went_era (st : Nd) : st.went.era = st.era := by unfold Nd.went; split <;> rfl
theorem went_bad (st : Nd) : st.went.bad = st.bad := by unfold Nd.went; split <;> rfl
theorem ask_g (st : Nd) (f : Bool) : (st.ask f).g = st.g := by unfold Nd.ask; split <;> (try split) <;> rfl
theorem Ok.put {st : Nd} (h : Ok st) {d b p : Nat} {bs : List Byt} (hb : bs.length = 60) : Ok (st.put d b p bs) := by
  refine ⟨by simp only [Nd.put, went_g]; exact h.geo, fun d' b' p' => ?_, by simp only [Nd.put, went_noise]; exact h.noise, by simp only [Nd.put, went_mask]; exact h.mask⟩
  simp only [Nd.put, upd3]
  split
  · split
    · rw [mixL_len (by rw [blankL_len, hb]), blankL_len]
    · exact hb
  · exact h.page _ _ _
theorem Ok.wipe {st : Nd} (h : Ok st) {d b : Nat} : Ok (st.wipe d b) := by
  refine ⟨by simp only [Nd.wipe, went_g]; exact h.geo, fun d' b' p' => ?_, by simp only [Nd.wipe, went_noise]; exact h.noise, by simp only [Nd.wipe, went_mask]; exact h.mask⟩
  simp only [Nd.wipe]
  split
  · split
    · rw [mixL_len (by rw [blankL_len, h.page]), h.page]
    · exact blankL_len
  · exact h.page _ _ _
theorem progFine_len {st : Nd} {d b p : Int} {n : Nat} (h : st.progFine d b p n = true) : n = 60 := by
  simp [progFine] at h; exact h.2.1
theorem askE_zero {st : Nd} {f : Bool} : st.askE f = 0 ↔ st.dead = false ∧ f = true := by
  unfold askE
  cases st.dead <;> cases f <;> simp
theorem Ok.prog {st : Nd} (h : Ok st) {d b p : Int} {bs : List Byt} : Ok (st.prog d b p bs) := by
  unfold Nd.prog
  split
  · rename_i h0
    exact (h.ask _).put (progFine_len (askE_zero.1 h0).2)
  · exact h.ask _
theorem Ok.erase {st : Nd} (h : Ok st) {d b : Int} : Ok (st.erase d b) := by
  unfold Nd.erase
  split
  · exact (h.ask _).wipe
  · exact h.ask _
theorem Ok.setNoise {st : Nd} (h : Ok st) {d b p : Int} {l : List Int} (hl : Few l) : Ok (st.setNoise d b p l) := by
  unfold Nd.setNoise
  split
  · refine ⟨h.geo, h.page, fun d' b' p' => ?_, h.mask⟩
    simp only [upd3]
    split
    · exact hl
    · exact h.noise _ _ _
  · exact h
theorem Ok.setStop {st : Nd} (h : Ok st) {k : Int} {m : List Byt} (hl : m.length ≤ 1000000000) : Ok (st.setStop k m) := ⟨h.geo, h.page, h.noise, hl⟩
theorem Ok.power {st : Nd} (h : Ok st) : Ok st.power := ⟨h.geo, h.page, h.noise, by simp [Nd.power]⟩
theorem Ok.new {g : Geo} (hf : fits g = true) (bad : List (Int × Int)) : Ok (Nd.new g bad) := ⟨hf, fun _ _ _ => blankL_len, fun _ _ _ => Few.nil, by simp [Nd.new]⟩
end Nd
/-- The number of a page's place. -/
def pix (g : Geo) (d b p : Nat) : Nat := (d * g.2.1.toNat + b) * g.2.2.1.toNat + p
def pages (g : Geo) : Nat := g.1.toNat * g.2.1.toNat * g.2.2.1.toNat
theorem pix_lt {g : Geo} {d b p : Nat} (hd : d < g.1.toNat) (hb : b < g.2.1.toNat) (hp : p < g.2.2.1.toNat) : pix g d b p < pages g := by
  unfold pix pages
  have h1 : d * g.2.1.toNat + b + 1 ≤ g.1.toNat * g.2.1.toNat := by
    have : (d + 1) * g.2.1.toNat ≤ g.1.toNat * g.2.1.toNat := Nat.mul_le_mul_right _ (by omega)
    rw [Nat.succ_mul] at this
    omega
  have h2 : (d * g.2.1.toNat + b + 1) * g.2.2.1.toNat ≤ g.1.toNat * g.2.1.toNat * g.2.2.1.toNat := Nat.mul_le_mul_right _ h1
  rw [Nat.succ_mul] at h2
  omega
theorem mul_add_inj {n a b c d : Nat} (hb : b < n) (hd : d < n) (h : a * n + b = c * n + d) : a = c ∧ b = d := by
  have hn : 0 < n := by omega
  have h1 : (a * n + b) / n = (c * n + d) / n := by rw [h]
  have h2 : (a * n + b) % n = (c * n + d) % n := by rw [h]
  rw [Nat.add_comm (a * n) b, Nat.add_comm (c * n) d] at h1 h2
  rw [Nat.add_mul_div_right _ _ hn, Nat.add_mul_div_right _ _ hn, Nat.div_eq_of_lt hb, Nat.div_eq_of_lt hd] at h1
  rw [Nat.add_mul_mod_self_right, Nat.add_mul_mod_self_right, Nat.mod_eq_of_lt hb, Nat.mod_eq_of_lt hd] at h2
  omega
theorem pix_inj {g : Geo} {d b p d' b' p' : Nat} (hb : b < g.2.1.toNat) (hp : p < g.2.2.1.toNat) (hb' : b' < g.2.1.toNat) (hp' : p' < g.2.2.1.toNat) (h : pix g d b p = pix g d' b' p') : d = d' ∧ b = b' ∧ p = p' := by
  unfold pix at h
  have h1 := mul_add_inj hp hp' h
  have h2 := mul_add_inj hb hb' h1.1
  exact ⟨h2.1, h2.2, h1.2⟩
end Go.Proofs.Ytppfnkedbpmliaa
