/- ABSTRACT RUNS, 28: moves: slots and heaps in another form (numbers renamed, what is garbage dropped, rows that are written no more as plain lists). -/
import Derived.Test.YthpcjekmgohelaaLib8
import Derived.ChangeArms
import Derived.ChangeShapes
import Derived.WideShapes
set_option linter.unusedVariables false
set_option linter.unusedSimpArgs false
namespace Go.Proofs.Ythpcjekmgohelaa.Ab
open Go Go.RowKit
set_option linter.unusedSimpArgs false
set_option linter.unusedVariables false

/-- A value (first) and its new form: number id stands for the old number σ id; a row that no one writes any more may stand as a plain list. -/
inductive Cv (σ : Nat → Nat) (ok : Nat → Prop) (H : Heap) (fr : Nat → Prop) : AVal → AVal → Prop
  | cl (a : AVal) (h : clean a = true) : Cv σ ok H fr a a
  | nilS : Cv σ ok H fr .nilS .nilS
  | nil : Cv σ ok H fr .nilS (.sl [])
  | ptr (id off : Nat) (h : ok id) : Cv σ ok H fr (.ptr (σ id) off) (.ptr id off)
  | eptr (id esz i off : Nat) (h : ok id) : Cv σ ok H fr (.eptr (σ id) esz i off) (.eptr id esz i off)
  | row (id n : Nat) (h : ok id) : Cv σ ok H fr (.row (σ id) n) (.row id n)
  | mp (id : Nat) (h : ok id) : Cv σ ok H fr (.mp (σ id)) (.mp id)
  | agg (cs cs' : List AVal) (hn : cs.length = cs'.length) (h : ∀ j, j < cs'.length → Cv σ ok H fr (cs.getD j .u) (cs'.getD j .u)) : Cv σ ok H fr (.agg cs) (.agg cs')
  | tup (cs cs' : List AVal) (hn : cs.length = cs'.length) (h : ∀ j, j < cs'.length → Cv σ ok H fr (cs.getD j .u) (cs'.getD j .u)) : Cv σ ok H fr (.tup cs) (.tup cs')
  | fn (f : FuncId) (cs cs' : List AVal) (hn : cs.length = cs'.length) (h : ∀ j, j < cs'.length → Cv σ ok H fr (cs.getD j .u) (cs'.getD j .u)) : Cv σ ok H fr (.fn f cs) (.fn f cs')
  | frz (id esz : Nat) (rows rows' : List (List AVal)) (fz : Bool) (ho : H[id]? = some (.row esz rows fz)) (hf : fr id) (hn : rows.length = rows'.length) (hr : ∀ r ∈ rows', r.length = esz)
      (h : ∀ i j, i < rows'.length → j < esz → Cv σ ok H fr ((rows.getD i []).getD j .u) ((rows'.getD i []).getD j .u)) : Cv σ ok H fr (.row id rows.length) (.sl rows')

theorem Cv.leaf {σ : Nat → Nat} {ok : Nat → Prop} {H : Heap} {fr : Nat → Prop} {a b : AVal} (h : Cv σ ok H fr a b) (hl : leafA a = true) : leafA b = true := by
  cases h <;> first | exact hl | rfl

inductive CvO (σ : Nat → Nat) (ok : Nat → Prop) (H : Heap) (fr : Nat → Prop) : AObj → AObj → Prop
  | dead (o : AObj) : CvO σ ok H fr o .dead
  | box (cs cs' : List AVal) (hn : cs.length = cs'.length) (h : ∀ j, j < cs'.length → Cv σ ok H fr (cs.getD j .u) (cs'.getD j .u)) : CvO σ ok H fr (.box cs) (.box cs')
  | row (esz : Nat) (rows rows' : List (List AVal)) (fz fz' : Bool) (hz : fz = true → fz' = true) (hn : rows.length = rows'.length) (hr : ∀ r ∈ rows', r.length = esz)
      (h : ∀ i j, i < rows'.length → j < esz → Cv σ ok H fr ((rows.getD i []).getD j .u) ((rows'.getD i []).getD j .u)) : CvO σ ok H fr (.row esz rows fz) (.row esz rows' fz')
  | map (es es' : List (AVal × AVal)) (hn : es.length = es'.length) (h : ∀ j, j < es'.length → Cv σ ok H fr (es.getD j (.u, .u)).1 (es'.getD j (.u, .u)).1 ∧ Cv σ ok H fr (es.getD j (.u, .u)).2 (es'.getD j (.u, .u)).2) : CvO σ ok H fr (.map es) (.map es')

/-- From one form of slots and heap to another one. -/
def Move (m0 : Nat) (E : Slots) (H : Heap) (E' : Slots) (H' : Heap) : Prop :=
  ∀ (G : GI) (F0 : Nat → Prop) (B0 : Nat) (w0 : World) (β0 κ0 : Nat → Nat) (H0 : Heap) (nt : Nat) (a : Act) (w : World) (β κ : Nat → Nat), H0.length = m0 →
    Inv G F0 B0 w0 β0 κ0 H0 nt a w (look E) H β κ → ∃ β' κ', Inv G F0 B0 w0 β0 κ0 H0 nt a w (look E') H' β' κ'

theorem Move.refl (m0 : Nat) (E : Slots) (H : Heap) : Move m0 E H E H := fun G F0 B0 w0 β0 κ0 H0 nt a w β κ _ h => ⟨β, κ, h⟩
theorem Move.trans {m0 : Nat} {E E' E'' : Slots} {H H' H'' : Heap} (h : Move m0 E H E' H') (k : Move m0 E' H' E'' H'') : Move m0 E H E'' H'' := by
  intro G F0 B0 w0 β0 κ0 H0 nt a w β κ hl hi
  obtain ⟨β1, κ1, h1⟩ := h G F0 B0 w0 β0 κ0 H0 nt a w β κ hl hi
  exact k G F0 B0 w0 β0 κ0 H0 nt a w β1 κ1 hl h1

/-- What a change of form must bear. -/
structure Form (m0 : Nat) (σ : Nat → Nat) (E : Slots) (H : Heap) (E' : Slots) (H' : Heap) : Prop where
  le : m0 ≤ H'.length
  fix : ∀ j, j < m0 → σ j = j
  inj : ∀ i j, i < H'.length → j < H'.length → (∀ o, H'[i]? = some o → o.alive = true) → (∀ o, H'[j]? = some o → o.alive = true) → σ i = σ j → i = j
  obj : ∀ j o', H'[j]? = some o' → o' = .dead ∨ ∃ o, H[σ j]? = some o ∧ CvO σ (· < H'.length) H (fun id => ∀ j o', H'[j]? = some o' → o'.mut = true → σ j ≠ id) o o'
  slot : ∀ p ∈ E', Cv σ (· < H'.length) H (fun id => ∀ j o', H'[j]? = some o' → o'.mut = true → σ j ≠ id) (look E p.1) p.2

theorem look_mem' (E : Slots) (t : Nat) : look E t = .u ∨ ∃ p ∈ E, p.1 = t ∧ p.2 = look E t := by
  induction E with
  | nil => exact .inl rfl
  | cons p E ih =>
    obtain ⟨k, v⟩ := p
    simp only [look]
    cases h : Nat.beq k t with
    | true => exact .inr ⟨(k, v), .head _, Nat.eq_of_beq_eq_true h, rfl⟩
    | false => rcases ih with h | ⟨p, h1, h2⟩
               · exact .inl h
               · exact .inr ⟨p, .tail _ h1, h2⟩

theorem CvO.mut {σ : Nat → Nat} {ok : Nat → Prop} {H : Heap} {fr : Nat → Prop} {o o' : AObj} (h : CvO σ ok H fr o o') (hm : o'.mut = true) : o.mut = true := by
  cases h with
  | dead => simp [AObj.mut] at hm
  | box => rfl
  | row esz rows rows' fz fz' hz => cases fz <;> simp_all [AObj.mut]
  | map => rfl
theorem CvO.alive {σ : Nat → Nat} {ok : Nat → Prop} {H : Heap} {fr : Nat → Prop} {o o' : AObj} (h : CvO σ ok H fr o o') (hm : o'.alive = true) : o.alive = true := by
  cases h with
  | dead => simp [AObj.alive] at hm
  | box => rfl
  | row => rfl
  | map => rfl

section
variable {G : GI} {F0 : Nat → Prop} {B0 : Nat} {w : World} {β κ : Nat → Nat} {H H' : Heap} {σ : Nat → Nat}

theorem cv_rel {ok fr : Nat → Prop} {R' : RP} (hs : HS G F0 B0 w β κ H) (hF : ∀ x, (RPof F0 B0 w β κ H).F x → R'.F x ∧ R'.w.heap[x]? = w.heap[x]?) (hβ : ∀ id, ok id → R'.β id = β (σ id) ∧ R'.κ id = κ (σ id) ∧ id < R'.N)
    (hfr : ∀ id esz rows fz, H[id]? = some (.row esz rows fz) → fr id → R'.F (β id) ∧ R'.w.heap[β id]? = w.heap[β id]?)
    {a b : AVal} (h : Cv σ ok H fr a b) : ∀ {v : Value}, Rel (RPof F0 B0 w β κ H) v a → Rel R' v b := by
  induction h with
  | cl a hc => exact fun hr => Rel.clean hF hr hc
  | nilS => intro v hr; cases hr; exact .nilS
  | nil => intro v hr; cases hr; exact .sl none 0 [] 0 0 0 (fun _ _ => undef) (Nat.le_refl _) (fun hne => absurd rfl hne) (fun r h => by simp at h) (fun i j hi => by simp at hi) (fun i j hi => by simp at hi) (fun i j hi => by simp at hi)
  | ptr id off hid => intro v hr; cases hr; rw [show (RPof F0 B0 w β κ H).β (σ id) = R'.β id from (hβ id hid).1.symm]; exact .ptr id off (hβ id hid).2.2
  | eptr id esz i off hid => intro v hr; cases hr; rw [show (RPof F0 B0 w β κ H).β (σ id) = R'.β id from (hβ id hid).1.symm]; exact .eptr id esz i off (hβ id hid).2.2
  | row id n hid => intro v hr; cases hr; rw [show (RPof F0 B0 w β κ H).β (σ id) = R'.β id from (hβ id hid).1.symm, show (RPof F0 B0 w β κ H).κ (σ id) = R'.κ id from (hβ id hid).2.1.symm]; exact .row id n (hβ id hid).2.2
  | mp id hid => intro v hr; cases hr; rw [show (RPof F0 B0 w β κ H).β (σ id) = R'.β id from (hβ id hid).1.symm]; exact .mp id (hβ id hid).2.2
  | agg cs cs' hn hcv ih =>
    intro v hr
    cases hr with
    | agg vs _ h1 h2 h3 => exact .agg vs cs' (h1.trans hn) (fun j hj => (hcv j hj).leaf (h2 j (hn ▸ hj))) (fun j hj => ih j hj (h3 j (hn ▸ hj)))
  | tup cs cs' hn hcv ih =>
    intro v hr
    cases hr with
    | tup vs _ h1 h3 => exact .tup vs cs' (h1.trans hn) (fun j hj => ih j hj (h3 j (hn ▸ hj)))
  | fn f cs cs' hn hcv ih =>
    intro v hr
    cases hr with
    | fn _ vs _ h1 h3 => exact .fn f vs cs' (h1.trans hn) (fun j hj => ih j hj (h3 j (hn ▸ hj)))
  | frz id esz rows rows' fz ho hf hn hr' hcv ih =>
    intro v hr
    cases hr with
    | row _ _ hid =>
      obtain ⟨vs, T, h1, h2, h3, h4, h5⟩ := hs.obj id _ ho
      have hff := hfr id esz rows fz ho hf
      rw [hn]
      refine .sl _ _ rows' esz (β id) 0 (fun i j => vs.getD (i * esz + j) undef) (by rw [← hn]; exact h2) (fun hne => ⟨rfl, hff.1⟩) hr' (fun i j hi hj => (hcv i j hi hj).leaf (h5 i j (hn ▸ hi) hj).1) (fun i j hi hj => ?_) (fun i j hi hj => ih i j hi hj (h5 i j (hn ▸ hi) hj).2)
      rw [Nat.zero_add]
      have h1' : R'.w.heap[β id]? = some (.cells vs T (0, 0)) := hff.2.trans h1
      unfold World.cell?
      simp only [h1']
      have h3' : κ id * esz ≤ vs.size := h3
      have h2' : rows.length ≤ κ id := h2
      have hlt : i * esz + j < vs.size := by
        have : (i + 1) * esz ≤ κ id * esz := Nat.mul_le_mul_right _ (by omega)
        rw [Nat.succ_mul] at this
        omega
      simp [hlt, Array.getElem?_eq_getElem, Array.getD_eq_getD_getElem?]

theorem cvO_rel {ok fr : Nat → Prop} {R' : RP} {id0 : Nat} {o o' : AObj} (hs : HS G F0 B0 w β κ H) (hF : ∀ x, (RPof F0 B0 w β κ H).F x → R'.F x ∧ R'.w.heap[x]? = w.heap[x]?) (hβ : ∀ id, ok id → R'.β id = β (σ id) ∧ R'.κ id = κ (σ id) ∧ id < R'.N)
    (hfr : ∀ id esz rows fz, H[id]? = some (.row esz rows fz) → fr id → R'.F (β id) ∧ R'.w.heap[β id]? = w.heap[β id]?) (hok : ok id0) (hw : R'.w = w)
    (h : CvO σ ok H fr o o') (hor : ORel (RPof F0 B0 w β κ H) (σ id0) o) : ORel R' id0 o' := by
  have tr : ∀ {a b : AVal} {v : Value}, Cv σ ok H fr a b → Rel (RPof F0 B0 w β κ H) v a → Rel R' v b := fun hc hr => cv_rel hs hF hβ hfr hc hr
  have hb := hβ id0 hok
  cases h with
  | dead => trivial
  | box cs cs' hn hcv =>
    obtain ⟨vs, T, g1, g2, g3⟩ := hor
    refine ⟨vs, T, ?_, g2.trans hn, fun i hi => ⟨(hcv i hi).leaf (g3 i (hn ▸ hi)).1, tr (hcv i hi) (g3 i (hn ▸ hi)).2⟩⟩
    rw [hw, hb.1]; exact g1
  | row esz rows rows' fz fz' hz hn hr hcv =>
    obtain ⟨vs, T, g1, g2, g3, g4, g5⟩ := hor
    refine ⟨vs, T, ?_, ?_, ?_, hr, fun i k hi hk => ⟨(hcv i k hi hk).leaf (g5 i k (hn ▸ hi) hk).1, tr (hcv i k hi hk) (g5 i k (hn ▸ hi) hk).2⟩⟩
    · rw [hw, hb.1]; exact g1
    · rw [hb.2.1, ← hn]; exact g2
    · rw [hb.2.1]; exact g3
  | map es es' hn hcv =>
    obtain ⟨ents, clock, g1, g2, g3⟩ := hor
    refine ⟨ents, clock, ?_, g2.trans hn, fun i hi => ⟨tr (hcv i hi).1 (g3 i (hn ▸ hi)).1, tr (hcv i hi).2 (g3 i (hn ▸ hi)).2⟩⟩
    rw [hw, hb.1]; exact g1

theorem form_inv {m0 : Nat} {w0 : World} {β0 κ0 : Nat → Nat} {H0 : Heap} {nt : Nat} {a : Act} {E E' : Slots} (hf : Form H0.length σ E H E' H') (h : Inv G F0 B0 w0 β0 κ0 H0 nt a w (look E) H β κ) :
    Inv G F0 B0 w0 β0 κ0 H0 nt a w (look E') H' (fun i => β (σ i)) (fun i => κ (σ i)) := by
  have hs := h.adv.hs
  have hal : ∀ j o', H'[j]? = some o' → o'.alive = true → ∃ o, H[σ j]? = some o ∧ o.alive = true := by
    intro j o' h1 h2
    rcases hf.obj j o' h1 with h3 | ⟨o, h3, h4⟩
    · subst h3; simp [AObj.alive] at h2
    · exact ⟨o, h3, h4.alive h2⟩
  have halm : ∀ j o', H'[j]? = some o' → o'.mut = true → ∃ o, H[σ j]? = some o ∧ o.alive = true ∧ o.mut = true := by
    intro j o' h1 h2
    rcases hf.obj j o' h1 with h3 | ⟨o, h3, h4⟩
    · subst h3; simp [AObj.mut] at h2
    · exact ⟨o, h3, mut_alive (h4.mut h2), h4.mut h2⟩
  have hmut : ∀ b, Mut (fun i => β (σ i)) H' b → Mut β H b := by
    rintro b ⟨j, o', h1, h2, h3⟩
    rcases hf.obj j o' h1 with h4 | ⟨o, h4, h5⟩
    · subst h4; simp [AObj.mut] at h2
    · exact ⟨σ j, o, h4, h5.mut h2, h3⟩
  have hF : ∀ x, (RPof F0 B0 w β κ H).F x → (RPof F0 B0 w (fun i => β (σ i)) (fun i => κ (σ i)) H').F x ∧ (RPof F0 B0 w (fun i => β (σ i)) (fun i => κ (σ i)) H').w.heap[x]? = w.heap[x]? :=
    fun x hx => ⟨⟨hx.1, hx.2.1, fun hm => hx.2.2 (hmut x hm)⟩, rfl⟩
  have hβ : ∀ id, id < H'.length → (RPof F0 B0 w (fun i => β (σ i)) (fun i => κ (σ i)) H').β id = β (σ id) ∧ (RPof F0 B0 w (fun i => β (σ i)) (fun i => κ (σ i)) H').κ id = κ (σ id) ∧ id < (RPof F0 B0 w (fun i => β (σ i)) (fun i => κ (σ i)) H').N :=
    fun id h => ⟨rfl, rfl, h⟩
  have hfr : ∀ id esz rows fz, H[id]? = some (AObj.row esz rows fz) → (∀ j o', H'[j]? = some o' → o'.mut = true → σ j ≠ id) → (RPof F0 B0 w (fun i => β (σ i)) (fun i => κ (σ i)) H').F (β id) ∧ (RPof F0 B0 w (fun i => β (σ i)) (fun i => κ (σ i)) H').w.heap[β id]? = w.heap[β id]? := by
    intro id esz rows fz ho hfr
    refine ⟨⟨hs.al id _ ho rfl, (hs.lt id _ ho rfl).1, ?_⟩, rfl⟩
    rintro ⟨j, o', g1, g2, g3⟩
    obtain ⟨o, k1, k2, k3⟩ := halm j o' g1 g2
    exact hfr j o' g1 g2 (hs.inj id (σ j) _ o ho k1 rfl k2 (.inr k3) g3).symm
  refine ⟨⟨⟨hs.gw, hs.ng, hs.b0, hs.f0, fun j o' ho => ?_, fun j o' ho ha => ?_, fun i j oi oj h1 h2 h3 h4 hm0 h5 => ?_, fun j o' ho ha => ?_⟩, h.adv.kept, fun b hb => h.adv.mt b (hmut b hb), hf.le, fun i hi => ?_⟩, fun t => ?_, h.size, h.defers⟩
  · rcases hf.obj j o' ho with rfl | ⟨o, h1, h2⟩
    · trivial
    · exact cvO_rel hs hF hβ hfr (List.getElem?_eq_some_iff.1 ho).1 rfl h2 (hs.obj (σ j) o h1)
  · obtain ⟨o, h1, h2⟩ := hal j o' ho ha
    exact hs.lt (σ j) o h1 h2
  · obtain ⟨p, k1, k2⟩ := hal i oi h1 h3
    obtain ⟨q, k3, k4⟩ := hal j oj h2 h4
    have hm5 : p.mut = true ∨ q.mut = true := by
      rcases hm0 with hm | hm
      · obtain ⟨p', l1, l2, l3⟩ := halm i oi h1 hm
        rw [k1] at l1; simp only [Option.some.injEq] at l1; subst l1; exact .inl l3
      · obtain ⟨p', l1, l2, l3⟩ := halm j oj h2 hm
        rw [k3] at l1; simp only [Option.some.injEq] at l1; subst l1; exact .inr l3
    have := hs.inj (σ i) (σ j) p q k1 k3 k2 k4 hm5 h5
    exact hf.inj i j (List.getElem?_eq_some_iff.1 h1).1 (List.getElem?_eq_some_iff.1 h2).1 (fun o ho => by rw [h1] at ho; injection ho with ho; subst ho; exact h3) (fun o ho => by rw [h2] at ho; injection ho with ho; subst ho; exact h4) this
  · obtain ⟨o, h1, h2⟩ := hal j o' ho ha
    exact hs.al (σ j) o h1 h2
  · show β (σ i) = β0 i ∧ κ (σ i) = κ0 i
    rw [hf.fix i hi]; exact h.adv.agree i hi
  · rcases look_mem' E' t with hu | ⟨p, hp, rfl, hpe⟩
    · rw [hu]; exact .u _
    · rw [← hpe]
      exact cv_rel hs hF hβ hfr (hf.slot p hp) (h.rel p.1)
end

theorem Form.move {m0 : Nat} {σ : Nat → Nat} {E E' : Slots} {H H' : Heap} (hf : Form m0 σ E H E' H') : Move m0 E H E' H' := by
  intro G F0 B0 w0 β0 κ0 H0 nt a w β κ hl hi
  subst hl
  exact ⟨_, _, form_inv (m0 := 0) hf hi⟩

theorem Keep.move {m0 m : Nat} {E E' : Slots} {H : Heap} (hk : Keep m0 E H E' m) : Move m0 E H E' (H.take m) := by
  intro G F0 B0 w0 β0 κ0 H0 nt a w β κ hl hi
  subst hl
  exact ⟨β, κ, keep_inv hk hi⟩

section
variable {P : Program} {G : GI} {m0 : Nat} {E E' : Slots} {H H' : Heap} {Q : AExit → Slots → Heap → Prop}

theorem t_move {lc : LCode} (hm : Move m0 E H E' H') (h : Trip P G m0 lc E' H' Q) : Trip P G m0 lc E H Q := by
  intro F0 B0 w0 β0 κ0 H0 nt c hl hc Qm a w β κ hi hp
  obtain ⟨β', κ', hi'⟩ := hm G F0 B0 w0 β0 κ0 H0 nt a w β κ hl hi
  exact h F0 B0 w0 β0 κ0 H0 nt c hl hc Qm a w β' κ' hi' hp

/-- A loop: what holds at each round's begin, and a number that goes down; at a round's end slots and heap may be brought into another form. -/
theorem t_loopM {x : LCode} (I : Nat → Slots → Heap → Prop) (n : Nat) (E0 : Slots) (H0' : Heap) (hm : Move m0 E H E0 H0') (h0 : I n E0 H0')
    (hr : ∀ n E H, I n E H → Trip P G m0 x E H (andThen (fun E' H' => ∃ n' E'' H'', n' < n ∧ Move m0 E' H' E'' H'' ∧ I n' E'' H'') Q)) : Trip P G m0 (.loop x) E H Q := by
  refine t_move hm ?_
  intro F0 B0 w0 β0 κ0 H0 nt c hl hc Qm a w β κ hi hp
  obtain ⟨cx, rfl, hx⟩ := inv_loop hc
  let J : Act → World → Nat → Prop := fun a w n => ∃ E H β κ, Inv G F0 B0 w0 β0 κ0 H0 nt a w (look E) H β κ ∧ I n E H
  refine wp_loop (fun a w => ∃ n, J a w n) (fun a w => least (J a w)) ⟨n, E0, H0', β, κ, hi, h0⟩ ?_
  intro a w hJ
  have hsp := least_spec hJ
  generalize least (J a w) = k at hsp ⊢
  obtain ⟨E1, H1, β1, κ1, hi1, hI⟩ := hsp
  refine hr k E1 H1 hI F0 B0 w0 β0 κ0 H0 nt cx hl hx _ a w β1 κ1 hi1 ?_
  intro z a' w' E' H' β' κ' hi' hz
  cases z with
  | normal =>
    obtain ⟨n', E'', H'', hlt, hk, hI'⟩ := hz
    obtain ⟨β'', κ'', hi''⟩ := hk G F0 B0 w0 β0 κ0 H0 nt a' w' β' κ' hl hi'
    have hj : J a' w' n' := ⟨E'', H'', β'', κ'', hi'', hI'⟩
    exact ⟨⟨n', hj⟩, Nat.lt_of_le_of_lt (least_le hj) hlt⟩
  | exit id => exact hp _ _ _ _ _ _ _ hi' hz
  | ret => exact hp _ _ _ _ _ _ _ hi' hz
end
end Go.Proofs.Ythpcjekmgohelaa.Ab

/- ABSTRACT RUNS, 29: a call that is proved on a small heap, made on a large one. -/
namespace Go.Proofs.Ythpcjekmgohelaa.Ab
open Go Go.RowKit
set_option linter.unusedSimpArgs false
set_option linter.unusedVariables false

def sOf (ids : List Nat) (j : Nat) : Nat := ids.getD j 0
/-- Numbers of the large heap, as numbers of the small one. -/
def iOf (ids : List Nat) (n ns : Nat) (id : Nat) : Nat := if id ∈ ids then ids.idxOf id else ns + (id - n)
def okI (ids : List Nat) (n n' : Nat) (id : Nat) : Prop := id ∈ ids ∨ (n ≤ id ∧ id < n')
def frO (H : Heap) (id : Nat) : Prop := ∃ esz rows, H[id]? = some (.row esz rows true)

structure FrameIn (ids : List Nat) (args : List AVal) (H : Heap) (argsS : List AVal) (Hs : Heap) : Prop where
  len : ids.length = Hs.length
  nodup : ids.Nodup
  lt : ∀ i ∈ ids, i < H.length
  obj : ∀ j o', Hs[j]? = some o' → ∃ o, H[sOf ids j]? = some o ∧ CvO (sOf ids) (· < Hs.length) H (frO H) o o' ∧ o'.mut = o.mut ∧ o'.alive = o.alive
  nargs : args.length = argsS.length
  arg : ∀ j, j < argsS.length → Cv (sOf ids) (· < Hs.length) H (frO H) (args.getD j .u) (argsS.getD j .u)

structure FrameOut (ids : List Nat) (H Hs Hs' : Heap) (rS r : AVal) (H' : Heap) : Prop where
  len : H'.length = H.length + (Hs'.length - Hs.length)
  keep : ∀ id, id < H.length → id ∉ ids → H'[id]? = H[id]?
  obj : ∀ id o', okI ids H.length H'.length id → H'[id]? = some o' → o' = .dead ∨ ∃ o, Hs'[iOf ids H.length Hs.length id]? = some o ∧ CvO (iOf ids H.length Hs.length) (okI ids H.length H'.length) Hs' (frO Hs') o o'
  res : Cv (iOf ids H.length Hs.length) (okI ids H.length H'.length) Hs' (frO Hs') rS r

theorem EvS.frame {P : Program} {G : GI} {f : FuncId} {argsS args : List AVal} {Hs Hs' H H' : Heap} {rS r : AVal} (ids : List Nat) (h : EvS P G f argsS Hs rS Hs') (hi : FrameIn ids args H argsS Hs) (ho : FrameOut ids H Hs Hs' rS r H') : EvS P G f args H r H' := by
  intro F0 B0 w β κ vals hs hr0
  have hσ : ∀ j, j < Hs.length → sOf ids j ∈ ids := fun j hj => by
    unfold sOf
    rw [List.getD_eq_getElem?_getD, List.getElem?_eq_getElem (by rw [hi.len]; exact hj)]
    exact List.getElem_mem _
  have hσinj : ∀ i j, i < Hs.length → j < Hs.length → sOf ids i = sOf ids j → i = j := by
    intro i j h1 h2 e
    unfold sOf at e
    rw [List.getD_eq_getElem?_getD, List.getElem?_eq_getElem (by rw [hi.len]; exact h1), List.getD_eq_getElem?_getD, List.getElem?_eq_getElem (by rw [hi.len]; exact h2)] at e
    have hp := List.pairwise_iff_getElem.1 hi.nodup
    rcases Nat.lt_trichotomy i j with h | h | h
    · exact absurd e (hp i j _ _ h)
    · exact h
    · exact absurd e.symm (hp j i _ _ h)
  let βs : Nat → Nat := fun j => β (sOf ids j)
  let κs : Nat → Nat := fun j => κ (sOf ids j)
  have hmutS : ∀ b, Mut βs Hs b → Mut β H b := by
    rintro b ⟨j, o', h1, h2, h3⟩
    obtain ⟨o, g1, g2, g3, g4⟩ := hi.obj j o' h1
    exact ⟨_, o, g1, by rw [← g3]; exact h2, h3⟩
  -- a block of an alive object that may be written in the small heap is its object's alone
  have hmutId : ∀ b id o, Mut βs Hs b → H[id]? = some o → o.alive = true → β id = b → id ∈ ids := by
    rintro b id o ⟨j, o', h1, h2, h3⟩ h4 h5 h6
    obtain ⟨o2, g1, g2, g3, g4⟩ := hi.obj j o' h1
    have hm2 : o2.mut = true := by rw [← g3]; exact h2
    have := hs.inj id (sOf ids j) o o2 h4 g1 h5 (mut_alive hm2) (.inr hm2) (h6.trans h3)
    rw [this]; exact hσ j (List.getElem?_eq_some_iff.1 h1).1
  let F0s : Nat → Prop := fun b => (F0 b ∨ B0 ≤ b) ∧ b < w.heap.size ∧ (Mut β H b → Mut βs Hs b)
  have hFin : ∀ x, (RPof F0 B0 w β κ H).F x → (RPof F0s w.heap.size w βs κs Hs).F x ∧ (RPof F0s w.heap.size w βs κs Hs).w.heap[x]? = w.heap[x]? :=
    fun x hx => ⟨⟨.inl ⟨hx.1, hx.2.1, fun hm => absurd hm hx.2.2⟩, hx.2.1, fun hm => hx.2.2 (hmutS x hm)⟩, rfl⟩
  have hβin : ∀ id, id < Hs.length → (RPof F0s w.heap.size w βs κs Hs).β id = β (sOf ids id) ∧ (RPof F0s w.heap.size w βs κs Hs).κ id = κ (sOf ids id) ∧ id < (RPof F0s w.heap.size w βs κs Hs).N := fun id h => ⟨rfl, rfl, h⟩
  have hfrin : ∀ id esz rows fz, H[id]? = some (AObj.row esz rows fz) → frO H id → (RPof F0s w.heap.size w βs κs Hs).F (β id) ∧ (RPof F0s w.heap.size w βs κs Hs).w.heap[β id]? = w.heap[β id]? := by
    intro id esz rows fz h1 ⟨e2, r2, h2⟩
    have hnm : ¬ Mut β H (β id) := by
      rintro ⟨id', o', g1, g2, g3⟩
      have := hs.inj id id' _ o' h2 g1 rfl (mut_alive g2) (.inr g2) g3
      subst this
      rw [h2] at g1; simp only [Option.some.injEq] at g1; subst g1; simp [AObj.mut] at g2
    exact hFin _ ⟨hs.al id _ h1 rfl, (hs.lt id _ h1 rfl).1, hnm⟩
  have hsS : HS G F0s w.heap.size w βs κs Hs := by
    refine ⟨hs.gw, hs.ng, Nat.le_refl _, fun b hb => hb.2.1, fun j o' h1 => ?_, fun j o' h1 ha => ?_, fun i j oi oj h1 h2 h3 h4 h5 h6 => ?_, fun j o' h1 ha => ?_⟩
    · obtain ⟨o, g1, g2, g3, g4⟩ := hi.obj j o' h1
      exact cvO_rel hs hFin hβin hfrin (List.getElem?_eq_some_iff.1 h1).1 rfl g2 (hs.obj _ o g1)
    · obtain ⟨o, g1, g2, g3, g4⟩ := hi.obj j o' h1
      exact hs.lt _ o g1 (by rw [← g4]; exact ha)
    · obtain ⟨o, g1, g2, g3, g4⟩ := hi.obj i oi h1
      obtain ⟨p, k1, k2, k3, k4⟩ := hi.obj j oj h2
      exact hσinj i j (List.getElem?_eq_some_iff.1 h1).1 (List.getElem?_eq_some_iff.1 h2).1 (hs.inj _ _ o p g1 k1 (by rw [← g4]; exact h3) (by rw [← k4]; exact h4) (by rw [← g3, ← k3]; exact h5) h6)
    · obtain ⟨o, g1, g2, g3, g4⟩ := hi.obj j o' h1
      have hao : o.alive = true := by rw [← g4]; exact ha
      refine .inl ⟨hs.al _ o g1 hao, (hs.lt _ o g1 hao).1, ?_⟩
      rintro ⟨id', p, k1, k2, k3⟩
      have := hs.inj (sOf ids j) id' o p g1 k1 hao (mut_alive k2) (.inr k2) k3
      subst this
      rw [g1] at k1; simp only [Option.some.injEq] at k1; subst k1
      exact ⟨j, o', h1, by rw [g3]; exact k2, rfl⟩
  have hrS : RelL (RPof F0s w.heap.size w βs κs Hs) vals argsS :=
    ⟨hr0.1.trans hi.nargs, fun j hj => cv_rel hs hFin hβin hfrin (hi.arg j hj) (hr0.2 j (by rw [hi.nargs]; exact hj))⟩
  refine (h F0s w.heap.size w βs κs vals hsS hrS).mono ?_
  rintro e w' ⟨rv, βs', κs', rfl, hs', hk', hmt', hlen', hag', hrel'⟩
  have hdec : ∀ id, Decidable (okI ids H.length H'.length id) := fun id => Classical.propDecidable _
  let β' : Nat → Nat := fun id => @ite _ (okI ids H.length H'.length id) (hdec id) (βs' (iOf ids H.length Hs.length id)) (β id)
  let κ' : Nat → Nat := fun id => @ite _ (okI ids H.length H'.length id) (hdec id) (κs' (iOf ids H.length Hs.length id)) (κ id)
  have hβ1 : ∀ id, okI ids H.length H'.length id → β' id = βs' (iOf ids H.length Hs.length id) ∧ κ' id = κs' (iOf ids H.length Hs.length id) := fun id hk => ⟨if_pos hk, if_pos hk⟩
  have hβ2 : ∀ id, ¬ okI ids H.length H'.length id → β' id = β id ∧ κ' id = κ id := fun id hk => ⟨if_neg hk, if_neg hk⟩
  have hlenH : H.length ≤ H'.length := by rw [ho.len]; omega
  have hokLt : ∀ id, okI ids H.length H'.length id → id < H'.length := fun id hk => by
    rcases hk with hk | hk
    · exact Nat.lt_of_lt_of_le (hi.lt id hk) hlenH
    · exact hk.2
  have hnok : ∀ id o', ¬ okI ids H.length H'.length id → H'[id]? = some o' → id < H.length ∧ id ∉ ids ∧ H[id]? = some o' := by
    intro id o' hn h1
    have hlt := (List.getElem?_eq_some_iff.1 h1).1
    have h2 : id ∉ ids := fun h => hn (.inl h)
    have h3 : id < H.length := Nat.lt_of_not_le fun h => hn (.inr ⟨h, hlt⟩)
    exact ⟨h3, h2, by rw [← ho.keep id h3 h2]; exact h1⟩
  have hidx : ∀ id, id ∈ ids → iOf ids H.length Hs.length id < Hs.length ∧ sOf ids (iOf ids H.length Hs.length id) = id := by
    intro id hm
    have h1 : ids.idxOf id < ids.length := List.idxOf_lt_length_iff.2 hm
    unfold iOf sOf
    rw [if_pos hm]
    refine ⟨by rw [← hi.len]; exact h1, ?_⟩
    rw [List.getD_eq_getElem?_getD, List.getElem?_eq_getElem h1]
    simp
  have hagree : ∀ id, id < H.length → β' id = β id ∧ κ' id = κ id := by
    intro id hid
    by_cases hk : okI ids H.length H'.length id
    · have hm : id ∈ ids := by
        rcases hk with hk | hk
        · exact hk
        · omega
      obtain ⟨g1, g2⟩ := hidx id hm
      obtain ⟨k1, k2⟩ := hag' _ g1
      rw [(hβ1 id hk).1, (hβ1 id hk).2, k1, k2]
      show β (sOf ids _) = β id ∧ κ (sOf ids _) = κ id
      rw [g2]; exact ⟨rfl, rfl⟩
    · exact hβ2 id hk
  have hobjM : ∀ id o', okI ids H.length H'.length id → H'[id]? = some o' → o'.alive = true → ∃ o, Hs'[iOf ids H.length Hs.length id]? = some o ∧ o.alive = true ∧ (o'.mut = true → o.mut = true) ∧ CvO (iOf ids H.length Hs.length) (okI ids H.length H'.length) Hs' (frO Hs') o o' := by
    intro id o' hk h1 ha
    rcases ho.obj id o' hk h1 with rfl | ⟨o, g1, g2⟩
    · simp [AObj.alive] at ha
    · exact ⟨o, g1, g2.alive ha, fun hm => g2.mut hm, g2⟩
  -- who may be written behind the call
  have hmut' : ∀ x, Mut β' H' x → Mut βs' Hs' x ∨ (Mut β H x ∧ ¬ Mut βs Hs x ∧ x < w.heap.size) := by
    rintro x ⟨id, o', h1, h2, h3⟩
    by_cases hk : okI ids H.length H'.length id
    · obtain ⟨o, g1, g2, g3, g4⟩ := hobjM id o' hk h1 (mut_alive h2)
      exact .inl ⟨_, o, g1, g3 h2, by rw [← (hβ1 id hk).1]; exact h3⟩
    · obtain ⟨g1, g2, g3⟩ := hnok id o' hk h1
      rw [(hβ2 id hk).1] at h3
      refine .inr ⟨⟨id, o', g3, h2, h3⟩, fun hm => g2 (hmutId x id o' hm g3 (mut_alive h2) h3.symm), ?_⟩
      rw [h3]; exact (hs.lt id o' g3 (mut_alive h2)).1
  have hFout : ∀ x, (RPof F0s w.heap.size w' βs' κs' Hs').F x → (RPof F0 B0 w' β' κ' H').F x ∧ (RPof F0 B0 w' β' κ' H').w.heap[x]? = w'.heap[x]? := by
    rintro x ⟨h1, h2, h3⟩
    refine ⟨⟨?_, h2, fun hm => ?_⟩, rfl⟩
    · rcases h1 with h1 | h1
      · exact h1.1
      · exact .inr (Nat.le_trans hs.b0 h1)
    · rcases hmut' x hm with g | ⟨g1, g2, g3⟩
      · exact h3 g
      · rcases h1 with h1 | h1
        · exact g2 (h1.2.2 g1)
        · omega
  have hβout : ∀ id, okI ids H.length H'.length id → (RPof F0 B0 w' β' κ' H').β id = βs' (iOf ids H.length Hs.length id) ∧ (RPof F0 B0 w' β' κ' H').κ id = κs' (iOf ids H.length Hs.length id) ∧ id < (RPof F0 B0 w' β' κ' H').N :=
    fun id hk => ⟨(hβ1 id hk).1, (hβ1 id hk).2, hokLt id hk⟩
  have hfrout : ∀ id esz rows fz, Hs'[id]? = some (AObj.row esz rows fz) → frO Hs' id → (RPof F0 B0 w' β' κ' H').F (βs' id) ∧ (RPof F0 B0 w' β' κ' H').w.heap[βs' id]? = w'.heap[βs' id]? := by
    intro id esz rows fz h1 ⟨e2, r2, h2⟩
    have hnm : ¬ Mut βs' Hs' (βs' id) := by
      rintro ⟨id', o', g1, g2, g3⟩
      have := hs'.inj id id' _ o' h2 g1 rfl (mut_alive g2) (.inr g2) g3
      subst this
      rw [h2] at g1; simp only [Option.some.injEq] at g1; subst g1; simp [AObj.mut] at g2
    exact hFout _ ⟨hs'.al id _ h1 rfl, (hs'.lt id _ h1 rfl).1, hnm⟩
  have hkept : Kept (Mut β H) w w' := ⟨hk'.os, hk'.tape, hk'.output, hk'.size, fun b hb hn => hk'.block b hb fun hm => hn (hmutS b hm)⟩
  have hmt2 : ∀ b, Mut β' H' b → Mut β H b ∨ w.heap.size ≤ b := by
    intro b hb
    rcases hmut' b hb with g | g
    · rcases hmt' b g with g | g
      · exact .inl (hmutS b g)
      · exact .inr g
    · exact .inl g.1
  have hle : (RPof F0 B0 w β κ H).Le (RPof F0 B0 w' β' κ' H') := by
    refine le_of hkept hmt2 hlenH hagree
  have hmix : ∀ id o' id' o2, okI ids H.length H'.length id → H'[id]? = some o' → o'.alive = true → ¬ okI ids H.length H'.length id' → H'[id']? = some o2 → o2.alive = true → (o'.mut = true ∨ o2.mut = true) → β' id = β' id' → False := by
    intro id o' id' o2 hk h1 ha hnk h2 ha2 hm he
    obtain ⟨o, g1, g2, g3, g4⟩ := hobjM id o' hk h1 ha
    obtain ⟨k1, k2, k3⟩ := hnok id' o2 hnk h2
    rw [(hβ1 id hk).1, (hβ2 id' hnk).1] at he
    have hlt := (hs.lt id' o2 k3 ha2).1
    rcases hm with hm | hm
    · rcases hmt' _ ⟨_, o, g1, g3 hm, rfl⟩ with q | q
      · exact k2 (hmutId _ id' o2 q k3 ha2 he.symm)
      · omega
    · have hal := hs'.al _ o g1 g2
      rcases hal with q | q
      · exact k2 (hmutId _ id' o2 (q.2.2 ⟨id', o2, k3, hm, he⟩) k3 ha2 he.symm)
      · rw [he] at q; omega
  refine ⟨rv, β', κ', rfl, ⟨hs'.gw, hs'.ng, Nat.le_trans hs.b0 hk'.size, fun b hb => Nat.lt_of_lt_of_le (hs.f0 b hb) hk'.size, fun id o' h1 => ?_, fun id o' h1 ha => ?_, fun id id' o' o2 h1 h2 a1 a2 am he => ?_, fun id o' h1 ha => ?_⟩, hkept, hmt2, hlenH, hagree, cv_rel hs' hFout hβout hfrout ho.res hrel'⟩
  · by_cases hk : okI ids H.length H'.length id
    · rcases ho.obj id o' hk h1 with rfl | ⟨o, g1, g2⟩
      · trivial
      · exact cvO_rel hs' hFout hβout hfrout hk rfl g2 (hs'.obj _ o g1)
    · obtain ⟨g1, g2, g3⟩ := hnok id o' hk h1
      by_cases hal : o'.alive = true
      · refine ORel.le hle g1 ?_ (hs.obj id o' g3)
        exact hk'.block _ (hs.lt id o' g3 hal).1 fun hm => g2 (hmutId _ id o' hm g3 hal rfl)
      · cases o' <;> simp [AObj.alive] at hal
        trivial
  · by_cases hk : okI ids H.length H'.length id
    · obtain ⟨o, g1, g2, g3, g4⟩ := hobjM id o' hk h1 ha
      rw [(hβ1 id hk).1]; exact hs'.lt _ o g1 g2
    · obtain ⟨g1, g2, g3⟩ := hnok id o' hk h1
      rw [(hβ2 id hk).1]; exact ⟨Nat.lt_of_lt_of_le (hs.lt id o' g3 ha).1 hk'.size, (hs.lt id o' g3 ha).2⟩
  · by_cases hk : okI ids H.length H'.length id
    · by_cases hk2 : okI ids H.length H'.length id'
      · obtain ⟨o, g1, g2, g3, g4⟩ := hobjM id o' hk h1 a1
        obtain ⟨p, l1, l2, l3, l4⟩ := hobjM id' o2 hk2 h2 a2
        rw [(hβ1 id hk).1, (hβ1 id' hk2).1] at he
        have hii := hs'.inj _ _ o p g1 l1 g2 l2 (am.imp g3 l3) he
        rcases hk with q | q <;> rcases hk2 with q2 | q2
        · have := (hidx id q).2; rw [hii, (hidx id' q2).2] at this; exact this.symm
        · have a := (hidx id q).1
          have : id' ∉ ids := fun h => by have := hi.lt id' h; omega
          rw [hii] at a; unfold iOf at a; rw [if_neg this] at a; omega
        · have a := (hidx id' q2).1
          have : id ∉ ids := fun h => by have := hi.lt id h; omega
          rw [← hii] at a; unfold iOf at a; rw [if_neg this] at a; omega
        · have n1 : id ∉ ids := fun h => by have := hi.lt id h; omega
          have n2 : id' ∉ ids := fun h => by have := hi.lt id' h; omega
          unfold iOf at hii; rw [if_neg n1, if_neg n2] at hii; omega
      · exact (hmix id o' id' o2 hk h1 a1 hk2 h2 a2 am he).elim
    · by_cases hk2 : okI ids H.length H'.length id'
      · exact (hmix id' o2 id o' hk2 h2 a2 hk h1 a1 am.symm he.symm).elim
      · obtain ⟨g1, g2, g3⟩ := hnok id o' hk h1
        obtain ⟨l1, l2, l3⟩ := hnok id' o2 hk2 h2
        rw [(hβ2 id hk).1, (hβ2 id' hk2).1] at he
        exact hs.inj id id' o' o2 g3 l3 a1 a2 am he
  · by_cases hk : okI ids H.length H'.length id
    · obtain ⟨o, g1, g2, g3, g4⟩ := hobjM id o' hk h1 ha
      rw [(hβ1 id hk).1]
      rcases hs'.al _ o g1 g2 with q | q
      · exact q.1
      · exact .inr (Nat.le_trans hs.b0 q)
    · obtain ⟨g1, g2, g3⟩ := hnok id o' hk h1
      rw [(hβ2 id hk).1]; exact hs.al id o' g3 ha

end Go.Proofs.Ythpcjekmgohelaa.Ab

/- ABSTRACT RUNS, 30: what can be read as data stands as a value without addresses. -/
namespace Go.Proofs.Ythpcjekmgohelaa.Ab
open Go Go.RowKit Go.ChangeShapes Go.WideShapes
set_option linter.unusedSimpArgs false
set_option linter.unusedVariables false

inductive PTy where
  | int (k : IntKind)
  | bool
  | str
  | sl (es : List PTy)

mutual
def has : PTy → AVal → Prop
  | .int k, a => ∃ n, a = .i k n ∧ k.min ≤ n ∧ n ≤ k.max
  | .bool, a => ∃ b, a = .b b
  | .str, a => ∃ l, a = .s l ∧ l.length ≤ 9223372036854775807
  | .sl es, a => ∃ rows, a = .sl rows ∧ rows.length ≤ 9223372036854775807 ∧ ∀ r ∈ rows, hasL es r
def hasL : List PTy → List AVal → Prop
  | [], as => as = []
  | t :: ts, as => ∃ a r, as = a :: r ∧ has t a ∧ hasL ts r
end

theorem hasL_len : ∀ (ts : List PTy) (as : List AVal), hasL ts as → as.length = ts.length
  | [], as, h => by unfold hasL at h; subst h; rfl
  | t :: ts, as, h => by
    unfold hasL at h
    obtain ⟨a, r, rfl, _, h2⟩ := h
    simp [hasL_len ts r h2]
theorem hasL_append : ∀ (ts us : List PTy) (as bs : List AVal), hasL ts as → hasL us bs → hasL (ts ++ us) (as ++ bs)
  | [], us, as, bs, h, k => by unfold hasL at h; subst h; exact k
  | t :: ts, us, as, bs, h, k => by
    unfold hasL at h
    obtain ⟨a, r, rfl, h1, h2⟩ := h
    show hasL (t :: (ts ++ us)) (a :: (r ++ bs))
    unfold hasL
    exact ⟨a, r ++ bs, rfl, h1, hasL_append ts us r bs h2 k⟩

/-- The kinds of a struct's cells, field by field. -/
def ptysF (P : Program) (rec : TypeId → Option (List PTy)) : List Field → Nat → Option (List PTy)
  | [], _ => some []
  | f :: fs, off => if f.offset ≠ off then none else match rec f.type with
    | some l => if P.cellsOf f.type = l.length then (ptysF P rec fs (off + l.length)).map (l ++ ·) else none
    | none => none
/-- The kinds of a type's cells. -/
def ptys (P : Program) : Nat → TypeId → Option (List PTy)
  | 0, _ => none
  | d + 1, t => match P.underlying t with
    | some (.int k) => some [.int k]
    | some .bool => some [.bool]
    | some .string => some [.str]
    | some (.slice e) => match ptys P d e with
      | some es => if P.cellsOf e = es.length ∧ es.length ≠ 0 then some [.sl es] else none
      | none => none
    | some (.struct fs) => match ptysF P (ptys P d) fs.toList 0 with
      | some l => if P.cellsOf t = l.length then some l else none
      | none => none
    | _ => none

/-- Cells and their values, one by one. -/
def RelCs (R : RP) (cs : List Value) (as : List AVal) : Prop := cs.length = as.length ∧ ∀ j, j < as.length → leafA (as.getD j .u) = true ∧ Rel R (cs.getD j undef) (as.getD j .u)

theorem RelCs.nil (R : RP) : RelCs R [] [] := ⟨rfl, fun j hj => by simp at hj⟩
theorem RelCs.one {R : RP} {v : Value} {a : AVal} (hl : leafA a = true) (h : Rel R v a) : RelCs R [v] [a] := by
  refine ⟨rfl, fun j hj => ?_⟩
  have : j = 0 := by simpa using hj
  subst this; exact ⟨hl, h⟩
theorem RelCs.append {R : RP} {cs ds : List Value} {as bs : List AVal} (h : RelCs R cs as) (k : RelCs R ds bs) : RelCs R (cs ++ ds) (as ++ bs) := by
  refine ⟨by simp [h.1, k.1], fun j hj => ?_⟩
  by_cases hlt : j < as.length
  · have e1 : (as ++ bs).getD j .u = as.getD j .u := by simp [List.getD_eq_getElem?_getD, List.getElem?_append_left hlt]
    have e2 : (cs ++ ds).getD j undef = cs.getD j undef := by simp [List.getD_eq_getElem?_getD, List.getElem?_append_left (h.1 ▸ hlt)]
    rw [e1, e2]; exact h.2 j hlt
  · have e1 : (as ++ bs).getD j .u = bs.getD (j - as.length) .u := by simp [List.getD_eq_getElem?_getD, List.getElem?_append_right (Nat.le_of_not_lt hlt)]
    have e2 : (cs ++ ds).getD j undef = ds.getD (j - as.length) undef := by rw [← h.1]; simp [List.getD_eq_getElem?_getD, List.getElem?_append_right (h.1 ▸ Nat.le_of_not_lt hlt)]
    rw [e1, e2]; exact k.2 _ (by simp at hj; omega)

section
variable {H : Type} {enc : TypeId × Value → H} {P : Program} {w : World} {base : Nat} {spare : Nat → Bool} {held : Bool}

theorem cell_lt {a : Addr} {v : Value} (h : w.cell? a = some v) : a.block < w.heap.size := by
  unfold World.cell? at h
  by_cases hb : a.block < w.heap.size
  · exact hb
  · have : w.heap[a.block]? = none := by simp; omega
    simp [this] at h

theorem list_pick {α β : Type} {p : α → β → Prop} : ∀ (n : Nat) (f : Nat → α → Prop) (h : ∀ i, i < n → ∃ a, f i a), ∃ l : List α, l.length = n ∧ ∀ i, i < n → ∃ a, l[i]? = some a ∧ f i a
  | 0, f, h => ⟨[], rfl, fun i hi => absurd hi (Nat.not_lt_zero i)⟩
  | n + 1, f, h => by
    obtain ⟨l, hl, hf⟩ := list_pick (p := p) n f fun i hi => h i (by omega)
    obtain ⟨a, ha⟩ := h n (by omega)
    refine ⟨l ++ [a], by simp [hl], fun i hi => ?_⟩
    by_cases hlt : i < n
    · obtain ⟨b, hb, hfb⟩ := hf i hlt
      exact ⟨b, by rw [List.getElem?_append_left (by omega)]; exact hb, hfb⟩
    · have : i = n := by omega
      subst this
      exact ⟨a, by simp [← hl], ha⟩

theorem trod_ab {F0 : Nat → Prop} {B0 : Nat} (hF : ∀ b, b < w.heap.size → F0 b) : ∀ (d : Nat) (t : TypeId) (ts : List PTy) (fuel : Nat) (cs : List Value) (x : DataW H × List MemPlace), ptys P d t = some ts →
    DataW.trod enc P w base spare held fuel t cs = some x → ∃ as, hasL ts as ∧ RelCs (RPof F0 B0 w id id []) cs as
  | 0, t, ts, fuel, cs, x, h1, h2 => by simp [ptys] at h1
  | d + 1, t, ts, fuel, cs, x, h1, h2 => by
    simp only [ptys] at h1
    split at h1
    · rename_i k hu
      simp only [Option.some.injEq] at h1; subst h1
      obtain ⟨n, rfl, _, hw⟩ := DataW.trod_int hu h2
      simp only [Lit.wf, Bool.and_eq_true, decide_eq_true_eq] at hw
      exact ⟨[.i k n], by simp [hasL, has, hw], .one rfl (.i k n)⟩
    · rename_i hu
      simp only [Option.some.injEq] at h1; subst h1
      obtain ⟨b, rfl, _⟩ := DataW.trod_bool hu h2
      exact ⟨[.b b], by simp [hasL, has], .one rfl (.b b)⟩
    · rename_i hu
      simp only [Option.some.injEq] at h1; subst h1
      obtain ⟨s, rfl, _, hs⟩ := DataW.trod_string hu h2
      refine ⟨[.s s.data.toList], ?_, .one rfl (.s s)⟩
      simp [hasL, has]
      unfold maxLen at hs
      have : s.size = s.data.size := rfl
      omega
    · rename_i e hu
      split at h1
      · rename_i es hes
        split at h1
        · rename_i hce
          simp only [Option.some.injEq] at h1; subst h1
          rcases DataW.trod_slice hu h2 with ⟨rfl, _⟩ | ⟨a, len, cap, elems, rest, n, _, rfl, rfl, hb, hl, hm, hlen, hel, hsp, hns⟩
          · refine ⟨[.sl []], by simp [hasL, has], .one rfl ?_⟩
            exact .sl none 0 [] 0 0 0 (fun _ _ => undef) (Nat.le_refl _) (fun hne => absurd rfl hne) (fun r h => by simp at h) (fun i j hi => by simp at hi) (fun i j hi => by simp at hi) (fun i j hi => by simp at hi)
          · have hrow : ∀ i, i < len → ∃ r : List AVal, hasL es r ∧ ∃ cs', w.cells? base (a.add (i * P.cellsOf e)) (P.cellsOf e) = some cs' ∧ RelCs (RPof F0 B0 w id id []) cs' r := by
              intro i hi
              have h3 := hel i hi
              rw [List.getElem?_eq_getElem (by omega)] at h3
              obtain ⟨cs', h4, h5⟩ := Option.bind_eq_some_iff.1 h3
              obtain ⟨r, h6, h7⟩ := trod_ab hF d e es n cs' _ hes h5
              exact ⟨r, h6, cs', h4, h7⟩
            obtain ⟨rows, hrl, hrows⟩ := list_pick (β := Unit) (p := fun _ _ => True) len (fun i r => hasL es r ∧ ∃ cs', w.cells? base (a.add (i * P.cellsOf e)) (P.cellsOf e) = some cs' ∧ RelCs (RPof F0 B0 w id id []) cs' r) hrow
            have hget : ∀ i, i < len → ∃ cs', hasL es (rows.getD i []) ∧ w.cells? base (a.add (i * P.cellsOf e)) (P.cellsOf e) = some cs' ∧ RelCs (RPof F0 B0 w id id []) cs' (rows.getD i []) := by
              intro i hi
              obtain ⟨r, g1, g2, cs', g3, g4⟩ := hrows i hi
              rw [List.getD_eq_getElem?_getD, g1]
              exact ⟨cs', g2, g3, g4⟩
            have hmem : ∀ r ∈ rows, hasL es r := by
              intro r hr
              obtain ⟨i, hi⟩ := List.getElem?_of_mem hr
              have hlt := (List.getElem?_eq_some_iff.1 hi).1
              obtain ⟨r', g1, g2, _⟩ := hrows i (by omega)
              rw [hi] at g1; simp only [Option.some.injEq] at g1; subst g1; exact g2
            refine ⟨[.sl rows], ?_, .one rfl ?_⟩
            · simp only [hasL, has]
              exact ⟨.sl rows, [], rfl, ⟨rows, rfl, by unfold maxLen at hm; omega, hmem⟩, rfl⟩
            · obtain ⟨blk, off, spot⟩ := a
              have hspot : len ≠ 0 → spot = none ∧ blk < w.heap.size := by
                intro hne
                obtain ⟨cs', g1, g2, g3⟩ := hget 0 (by omega)
                obtain ⟨_, g4, g5⟩ := World.cells?_some g2
                have h0 := g5 0 (by omega)
                have hl0 : 0 < cs'.length := by omega
                rw [List.getElem?_eq_getElem hl0] at h0
                exact ⟨by simpa [Addr.add] using World.cell?_spot h0, by simpa [Addr.add] using cell_lt h0⟩
              rw [← hrl]
              refine .sl _ cap rows es.length blk off (fun i j => ((w.cells? base ((⟨blk, off, spot⟩ : Addr).add (i * P.cellsOf e)) (P.cellsOf e)).getD []).getD j undef) (by omega) (fun hne => ?_) (fun r hr => hasL_len _ _ (hmem r hr)) (fun i j hi hj => ?_) (fun i j hi hj => ?_) (fun i j hi hj => ?_)
              · have hne' : len ≠ 0 := fun h0 => hne (List.length_eq_zero_iff.1 (hrl.trans h0))
                rw [(hspot hne').1]
                refine ⟨rfl, .inl (hF _ (hspot hne').2), (hspot hne').2, ?_⟩
                rintro ⟨i, o, h, _⟩; simp at h
              · obtain ⟨cs', g1, g2, g3⟩ := hget i (by omega)
                exact (g3.2 j (by rw [hasL_len _ _ g1]; exact hj)).1
              · obtain ⟨cs', g1, g2, g3⟩ := hget i (by omega)
                have hne' : len ≠ 0 := by omega
                obtain ⟨rfl, _⟩ := hspot hne'
                simp only [g2, Option.getD_some]
                obtain ⟨_, g4, g5⟩ := World.cells?_some g2
                have h0 := g5 j (by rw [hce.1]; exact hj)
                have hlj : j < cs'.length := by rw [g4, hce.1]; exact hj
                rw [List.getElem?_eq_getElem hlj] at h0
                rw [List.getD_eq_getElem?_getD, List.getElem?_eq_getElem hlj]
                rw [add_plain, add_plain, hce.1, Nat.add_assoc] at h0
                exact h0
              · obtain ⟨cs', g1, g2, g3⟩ := hget i (by omega)
                simp only [g2, Option.getD_some]
                exact (g3.2 j (by rw [hasL_len _ _ g1]; exact hj)).2
        · simp at h1
      · simp at h1
    · rename_i fs hu
      split at h1
      · rename_i l hl
        split at h1
        · rename_i hce
          simp only [Option.some.injEq] at h1; subst h1
          obtain ⟨xs, n, _, rfl, hlen, hxs, hf⟩ := DataW.trod_struct hu h2
          have key : ∀ (fl : List Field) (off : Nat) (us : List PTy), ptysF P (ptys P d) fl off = some us → off + us.length = cs.length → (∀ f ∈ fl, ∃ x, DataW.trod enc P w base spare held n f.type ((cs.drop f.offset).take (P.cellsOf f.type)) = some x) →
              ∃ as, hasL us as ∧ RelCs (RPof F0 B0 w id id []) (cs.drop off) as := by
            intro fl
            induction fl with
            | nil =>
              intro off us g1 g2 g3
              simp only [ptysF, Option.some.injEq] at g1; subst g1
              refine ⟨[], by simp [hasL], ?_⟩
              rw [List.drop_of_length_le (by simp at g2; omega)]
              exact .nil _
            | cons f fl ih =>
              intro off us g1 g2 g3
              simp only [ptysF] at g1
              split at g1
              · simp at g1
              · rename_i hoff
                have hoff : f.offset = off := Classical.not_not.1 hoff
                split at g1
                · rename_i l1 hl1
                  split at g1
                  · rename_i hc1
                    simp only [Option.map_eq_some_iff] at g1
                    obtain ⟨us', g4, rfl⟩ := g1
                    simp only [List.length_append] at g2
                    obtain ⟨x1, g5⟩ := g3 f (.head _)
                    obtain ⟨a1, k1, k2⟩ := trod_ab hF d f.type l1 n _ _ hl1 g5
                    obtain ⟨a2, k3, k4⟩ := ih (off + l1.length) us' g4 (by omega) fun f' hf' => g3 f' (.tail _ hf')
                    refine ⟨a1 ++ a2, hasL_append _ _ _ _ k1 k3, ?_⟩
                    have : cs.drop off = (cs.drop f.offset).take (P.cellsOf f.type) ++ cs.drop (off + l1.length) := by
                      rw [hoff, hc1, ← List.drop_drop, List.take_append_drop]
                    rw [this]; exact k2.append k4
                  · simp at g1
                · simp at g1
          obtain ⟨as, g1, g2⟩ := key fs.toList 0 l hl (by omega) fun f hfm => by
            obtain ⟨i, hi⟩ := List.getElem?_of_mem hfm
            have h3 := hf i f (by simpa using hi)
            have hlt := (List.getElem?_eq_some_iff.1 hi).1
            rw [List.getElem?_eq_getElem (by simp at hlt; omega)] at h3
            exact ⟨_, h3⟩
          exact ⟨as, g1, by simpa using g2⟩
        · simp at h1
      · simp at h1
    · simp at h1

def isSt (P : Program) (t : TypeId) : Bool :=
  match P.underlying t with
  | some (.struct _) => true
  | _ => false
/-- An argument: a struct by its cells, or one cell. -/
def hasA (st : Bool) (ts : List PTy) (a : AVal) : Prop := if st then ∃ as, a = .agg as ∧ hasL ts as else hasL ts [a]

theorem arg_ab {F0 : Nat → Prop} {B0 : Nat} (hF : ∀ b, b < w.heap.size → F0 b) {d : Nat} {t : TypeId} {ts : List PTy} {v : Value} {x : DataW H} {ps : List MemPlace} {r : Reach} {b0 : Nat} (ht : ptys P d t = some ts) (hval : Value.okWide P w r b0 t v) (h : DataW.Trod enc P w base spare held t v x ps) :
    ∃ a, hasA (isSt P t) ts a ∧ Rel (RPof F0 B0 w id id []) v a := by
  obtain ⟨fuel, h2⟩ := h
  obtain ⟨as, h3, h4⟩ := trod_ab (B0 := B0) hF d t ts fuel _ _ ht h2
  have hone : ∀ u : Value, v = u → (u.cells = #[u]) → isSt P t = false → ∃ a, hasA (isSt P t) ts a ∧ Rel (RPof F0 B0 w id id []) v a := by
    rintro u rfl h5 h6
    rw [h5] at h4
    obtain ⟨h7, h8⟩ := h4
    obtain ⟨a, rfl⟩ := List.length_eq_one_iff.1 h7.symm
    exact ⟨a, by unfold hasA; rw [h6]; exact h3, (h8 0 (by simp)).2⟩
  cases d with
  | zero => simp [ptys] at ht
  | succ d =>
    simp only [ptys] at ht
    split at ht
    · rename_i k hu
      obtain ⟨n, rfl⟩ := okWide_int hu hval
      exact hone _ rfl rfl (by simp [isSt, hu])
    · rename_i hu
      obtain ⟨n, rfl⟩ := okWide_bool hu hval
      exact hone _ rfl rfl (by simp [isSt, hu])
    · rename_i hu
      obtain ⟨n, rfl⟩ := okWide_string hu hval
      exact hone _ rfl rfl (by simp [isSt, hu])
    · rename_i e hu
      obtain ⟨a, l, c, rfl⟩ := okWide_slice hu hval
      exact hone _ rfl rfl (by simp [isSt, hu])
    · rename_i fs hu
      obtain ⟨vs, rfl, hsz⟩ := okWide_struct hu hval
      refine ⟨.agg as, by unfold hasA; rw [show isSt P t = true by simp [isSt, hu]]; exact ⟨as, rfl, h3⟩, ?_⟩
      have h4' : RelCs (RPof F0 B0 w id id []) vs.toList as := h4
      refine .agg vs as (by simpa using h4'.1) (fun j hj => (h4'.2 j hj).1) (fun j hj => ?_)
      have := (h4'.2 j hj).2
      rwa [List.getD_eq_getElem?_getD, Array.getElem?_toList, ← Array.getD_eq_getD_getElem?] at this
    · simp at ht
end
end Go.Proofs.Ythpcjekmgohelaa.Ab
