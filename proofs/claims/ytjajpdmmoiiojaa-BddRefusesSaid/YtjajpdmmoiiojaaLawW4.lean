/- What the law's loops know of memory: the row of diagrams, the row of tables, the acts that came in; the document's Do, whatever the act. -/
import Derived.Test.YtjajpdmmoiiojaaP7
namespace Go.Proofs.Ytjajpdmmoiiojaa
open Go.RowKit Go.Mem Go.Bdd
namespace LawW
open TabW BddW

def TOk (w : World) (own : Nat → Prop) (vl vt : Value) (g : Nat) : Prop := g < w.heap.size ∧ ¬ own g ∧ vl.ownBlock ≠ some g ∧ vt.ownBlock ≠ some g
structure Lay (w : World) (own : Nat → Prop) (vl vt : Value) (l : List Int) (ts : List (List Bool)) : Prop where
  rl : Row w 3 (Value.int .i64) vl l
  lo : ∀ g, vl.ownBlock = some g → ¬ own g ∧ vt.ownBlock ≠ some g
  to : ∀ g, vt.ownBlock = some g → ¬ own g
  rt : ∃ vs : List Value, Row w 33 (fun u => u) vt vs ∧ vs.length = ts.length ∧ ∀ (i : Nat) u t, vs[i]? = some u → ts[i]? = some t → Sees w Value.bool u t ∧ ∀ g, InBlk u g → TOk w own vl vt g
theorem Lay.move {w w' : World} {own own' : Nat → Prop} {vl vt : Value} {l : List Int} {ts : List (List Bool)} (h : Lay w own vl vt l ts) (m : Moves own w own' w') : Lay w' own' vl vt l ts := by
  obtain ⟨vs, r1, r2, r3⟩ := h.rt
  have no : ∀ g, g < w.heap.size → ¬ own g → ¬ own' g := fun g hg hn ho => by
    rcases m.2 g ho with h1 | h1
    · exact hn h1
    · omega
  refine ⟨h.rl.frm m.1 fun g hg => (h.lo g hg).1, fun g hg => ⟨no g (h.rl.lt g hg) (h.lo g hg).1, (h.lo g hg).2⟩, fun g hg => no g (r1.lt g hg) (h.to g hg), vs, r1.frm m.1 fun g hg => h.to g hg, r2, fun i u t hu ht => ?_⟩
  obtain ⟨a, b⟩ := r3 i u t hu ht
  exact ⟨a.frm m.1 fun g hg _ => (b g hg).2.1, fun g hg => ⟨Nat.lt_of_lt_of_le (b g hg).1 m.1.size, no g (b g hg).1 (b g hg).2.1, (b g hg).2.2⟩⟩
theorem Lay.frm0 {w w' : World} {own : Nat → Prop} {vl vt : Value} {l : List Int} {ts : List (List Bool)} (h : Lay w own vl vt l ts) (f : Frm (fun _ => False) w w') : Lay w' own vl vt l ts :=
  h.move (.of_frm (f.mono fun _ _ h => h.elim) fun _ h => .inl h)
theorem Lay.tabs {w : World} {own : Nat → Prop} {vl vt : Value} {l : List Int} {ts : List (List Bool)} (h : Lay w own vl vt l ts) : Tabs w (TOk w own vl vt) vt ts := by
  obtain ⟨vs, r1, r2, r3⟩ := h.rt
  exact ⟨vs, r1.sees, r2, r3⟩
/-- One diagram more. -/
theorem Lay.pushL {w w' : World} {own : Nat → Prop} {vl vt vl' : Value} {l : List Int} {ts : List (List Bool)} {f : Int} (h : Lay w own vl vt l ts) (ho : ∀ b, own b → b < w.heap.size) (hr : Row w' 3 (Value.int .i64) vl' (l ++ [f])) (hf : Frm (fun b => vl.ownBlock = some b) w w')
    (hg : ∀ g, vl'.ownBlock = some g → vl.ownBlock = some g ∨ w.heap.size ≤ g) : Lay w' own vl' vt (l ++ [f]) ts := by
  obtain ⟨vs, r1, r2, r3⟩ := h.rt
  have new : ∀ g, vl'.ownBlock = some g → ¬ own g ∧ vt.ownBlock ≠ some g := fun g hg' => by
    rcases hg g hg' with h1 | h1
    · exact h.lo g h1
    · exact ⟨fun o => by have := ho g o; omega, fun e => by have := r1.lt g e; omega⟩
  refine ⟨hr, new, h.to, vs, r1.frm hf fun g hg' e => (h.lo g e).2 hg', r2, fun i u t hu ht => ?_⟩
  obtain ⟨a, b⟩ := r3 i u t hu ht
  refine ⟨a.frm hf fun g hg' _ e => (b g hg').2.2.1 e, fun g hg' => ⟨Nat.lt_of_lt_of_le (b g hg').1 hf.size, (b g hg').2.1, fun e => ?_, (b g hg').2.2.2⟩⟩
  rcases hg g e with h1 | h1
  · exact (b g hg').2.2.1 h1
  · have := (b g hg').1; omega
/-- One table more. -/
theorem Lay.pushT {w w' : World} {own : Nat → Prop} {vl vt vt' u : Value} {l : List Int} {ts : List (List Bool)} {vs : List Value} {t : List Bool} (h : Lay w own vl vt l ts) (ho : ∀ b, own b → b < w.heap.size) (hv : Row w 33 (fun u => u) vt vs) (hvl : vs.length = ts.length)
    (hvs : ∀ (i : Nat) u t, vs[i]? = some u → ts[i]? = some t → Sees w Value.bool u t ∧ ∀ g, InBlk u g → TOk w own vl vt g)
    (hr : Row w' 33 (fun u => u) vt' (vs ++ [u])) (hf : Frm (fun b => vt.ownBlock = some b) w w') (hg : ∀ g, vt'.ownBlock = some g → vt.ownBlock = some g ∨ w.heap.size ≤ g)
    (hu : Sees w Value.bool u t) (hub : ∀ g, InBlk u g → TOk w own vl vt g) : Lay w' own vl vt' l (ts ++ [t]) := by
  have tok : ∀ g, TOk w own vl vt g → TOk w' own vl vt' g := fun g b => ⟨Nat.lt_of_lt_of_le b.1 hf.size, b.2.1, b.2.2.1, fun e => by
    rcases hg g e with h1 | h1
    · exact b.2.2.2 h1
    · have := b.1; omega⟩
  refine ⟨h.rl.frm hf fun g hg' e => (h.lo g hg').2 e, fun g hg' => ⟨(h.lo g hg').1, fun e => ?_⟩, fun g hg' o => ?_, vs ++ [u], hr, by simp [hvl], fun i u' t' hu' ht' => ?_⟩
  · rcases hg g e with h1 | h1
    · exact (h.lo g hg').2 h1
    · have := h.rl.lt g hg'; omega
  · rcases hg g hg' with h1 | h1
    · exact h.to g h1 o
    · have := ho g o; omega
  · by_cases hi : i < vs.length
    · rw [List.getElem?_append_left hi] at hu'
      rw [List.getElem?_append_left (by omega)] at ht'
      obtain ⟨a, b⟩ := hvs i u' t' hu' ht'
      exact ⟨a.frm hf fun g hg' _ e => (b g hg').2.2.2 e, fun g hg' => tok g (b g hg')⟩
    · have hi' : i = vs.length := by
        have := (List.getElem?_eq_some_iff.1 hu').1
        simp at this; omega
      subst hi'
      rw [List.getElem?_append_right (by omega)] at hu'
      rw [List.getElem?_append_right (by omega)] at ht'
      simp at hu'
      rw [hvl] at ht'
      simp at ht'
      subst hu'; subst ht'
      exact ⟨hu.frm hf fun g hg' _ e => (hub g hg').2.2.2 e, fun g hg' => tok g (hub g hg')⟩

theorem lay0 {w wr : World} {own : Nat → Prop} {u9 u10 : Value} {N : Nat} (hF : Frm (fun _ => False) w wr) (ho : ∀ b, own b → b < w.heap.size) (h9 : Row wr 4 Value.bool u9 (List.replicate N false)) (h10 : Row wr 4 Value.bool u10 (List.replicate N true)) (o9 : ∀ g, u9.ownBlock = some g → w.heap.size ≤ g) (o10 : ∀ g, u10.ownBlock = some g → w.heap.size ≤ g) :
    Lay ((wr.alloc (.cells #[.int .i64 0, .int .i64 1] 3)).alloc (.cells #[u9, u10] 33)) own (.slice (some ⟨wr.heap.size, 0, none⟩) 2 2) (.slice (some ⟨wr.heap.size + 1, 0, none⟩) 2 2) [0, 1] [List.replicate N false, List.replicate N true] := by
  have hsz := hF.size
  have old : ∀ g, w.heap.size ≤ g → ¬ own g := fun g hg o => by have := ho g o; omega
  have hF2 : Frm (fun _ => False) wr ((wr.alloc (.cells #[.int .i64 0, .int .i64 1] 3)).alloc (.cells #[u9, u10] 33)) := ((Frm.refl _ _).alloc _).alloc _
  have tok : ∀ {u : Value} {b : Bool}, Row wr 4 Value.bool u (List.replicate N b) → (∀ g, u.ownBlock = some g → w.heap.size ≤ g) → ∀ g, InBlk u g → TOk ((wr.alloc (.cells #[.int .i64 0, .int .i64 1] 3)).alloc (.cells #[u9, u10] 33)) own (.slice (some ⟨wr.heap.size, 0, none⟩) 2 2) (.slice (some ⟨wr.heap.size + 1, 0, none⟩) 2 2) g := fun hr hu g hg => by
    obtain ⟨o', n', c', e⟩ := hg
    have hg' := hr.lt g (by rw [e]; rfl)
    refine ⟨by simp; omega, old g (hu g (by rw [e]; rfl)), fun e => ?_, fun e => ?_⟩
    · have e' : wr.heap.size = g := by simpa [Value.ownBlock] using e
      omega
    · have e' : wr.heap.size + 1 = g := by simpa [Value.ownBlock] using e
      omega
  refine ⟨⟨rfl, .inr ⟨wr.heap.size, 2, _, rfl, Nat.zero_le _, blk_alloc (blk_new _) _, Nat.le_refl _, by decide, rfl, rfl⟩⟩, fun g hg => ?_, fun g hg => ?_, [u9, u10], ⟨rfl, .inr ⟨wr.heap.size + 1, 2, _, rfl, Nat.zero_le _, blk_new_at _ (by simp), Nat.le_refl _, by decide, rfl, rfl⟩⟩, rfl, fun i u t hu ht => ?_⟩
  · cases hg
    exact ⟨old _ hsz, fun e => by simp [Value.ownBlock] at e⟩
  · cases hg
    exact old _ (Nat.le_succ_of_le hsz)
  · match i, hu, ht with
    | 0, hu, ht => simp at hu ht; subst hu; subst ht; exact ⟨(h9.frm0 hF2).sees, tok h9 o9⟩
    | 1, hu, ht => simp at hu ht; subst hu; subst ht; exact ⟨(h10.frm0 hF2).sees, tok h10 o10⟩
    | i + 2, hu, ht => simp at hu

/-! ### The acts that came in -/
structure ActAt (w : World) (own : Nat → Prop) (g o : Nat) (x : ActF) (vv : Value) : Prop where
  c0 : w.cell? ⟨g, o, none⟩ = some (.int .i64 x.kind)
  c1 : w.cell? ⟨g, o + 1, none⟩ = some (.int .i64 x.a)
  c2 : w.cell? ⟨g, o + 2, none⟩ = some (.int .i64 x.b)
  c3 : w.cell? ⟨g, o + 3, none⟩ = some (.int .i64 x.c)
  c4 : w.cell? ⟨g, o + 4, none⟩ = some vv
  vars : SeesW w (Value.int .i64) vv x.vars
  far : x.vars ≠ [] → ∀ g', InBlk vv g' → ¬ own g'
  ints : I64 x.kind ∧ I64 x.a ∧ I64 x.b ∧ I64 x.c ∧ ∀ v ∈ x.vars, I64 v
def ActsIn (w : World) (own : Nat → Prop) (v : Value) (xs : List ActF) : Prop :=
  ∃ A c, v = .slice A xs.length c ∧ xs.length ≤ maxLen ∧ ∀ (i : Nat) x, xs[i]? = some x → ∃ g o vv, A = some ⟨g, o, none⟩ ∧ ¬ own g ∧ ActAt w own g (o + i * 5) x vv
theorem ActAt.move {w w' : World} {own own' : Nat → Prop} {g o : Nat} {x : ActF} {vv : Value} (h : ActAt w own g o x vv) (hg : ¬ own g) (m : Moves own w own' w') : ActAt w' own' g o x vv := by
  have hlt : g < w.heap.size := World.block_lt_of_cell? _ _ h.c0
  have hb := m.1.block g hlt hg
  have hc : ∀ {j v}, w.cell? ⟨g, j, none⟩ = some v → w'.cell? ⟨g, j, none⟩ = some v := fun hv => (World.cell?_of_block (w := w) hb).trans hv
  refine ⟨hc h.c0, hc h.c1, hc h.c2, hc h.c3, hc h.c4, h.vars.heap fun g' hg' hne hlt' => m.1.block g' hlt' (h.far hne g' hg'), fun hne g' hg' ho => ?_, h.ints⟩
  rcases m.2 g' ho with h1 | h1
  · exact h.far hne g' hg' h1
  · have := h.vars.inlt hg' hne; omega
theorem ActsIn.move {w w' : World} {own own' : Nat → Prop} {v : Value} {xs : List ActF} (h : ActsIn w own v xs) (m : Moves own w own' w') : ActsIn w' own' v xs := by
  obtain ⟨A, c, e, hl, ha⟩ := h
  refine ⟨A, c, e, hl, fun i x hx => ?_⟩
  obtain ⟨g, o, vv, ea, hg, hv⟩ := ha i x hx
  have hlt : g < w.heap.size := World.block_lt_of_cell? _ _ hv.c0
  refine ⟨g, o, vv, ea, fun ho => ?_, hv.move hg m⟩
  rcases m.2 g ho with h1 | h1
  · exact hg h1
  · omega
theorem ActsIn.slice {w : World} {own : Nat → Prop} {v : Value} {xs : List ActF} (h : ActsIn w own v xs) : ∃ A c, v = .slice A xs.length c ∧ xs.length ≤ maxLen ∧ ∀ (i : Nat) x, xs[i]? = some x → ∃ g o vv, A = some ⟨g, o, none⟩ ∧ ¬ own g ∧ ActAt w own g (o + i * 5) x vv := h

/-! ### The document's Do, whatever the act -/
theorem Do_calls (w : World) (ok : Nat → Prop) (n : Nat) (x : ActF) (vv vl : Value) (ts : List (List Bool)) (hn : n ≤ 30) (h0 : 0 < n) (F : Fits x n ts.length) (hx : Sees w (Value.int .i64) vv x.vars) (hl : Tabs w ok vl ts) (hts : 0 < ts.length)
    (hlen : ∀ a : Int, 0 ≤ a ∧ a < ts.length → (tab ts a).length = 2 ^ n) (h7 : x.kind = 7 → renamesF (tab ts x.a) n x.vars = true) :
    Calls Try.prog 31 #[.int .i64 n, .agg #[.int .i64 x.kind, .int .i64 x.a, .int .i64 x.b, .int .i64 x.c, vv], vl] w (DoPost w ok (doT n x ts)) := by
  have hk := F.kind
  by_cases k6 : x.kind = 6
  · exact Do6_calls w ok n x vv vl ts hn hx hl k6 (F.a (by omega)).1 (hlen _ (F.a (by omega)).1) F.vars
  by_cases k7 : x.kind = 7
  · have hr := h7 k7
    have hvl : x.vars.length = n := by simp only [renamesF, Bool.and_eq_true, decide_eq_true_eq] at hr; exact hr.1
    refine Do7_calls w ok n x vv vl ts hn h0 hx hl k7 (F.a (by omega)).1 (hlen _ (F.a (by omega)).1) hvl fun v hv _ => ?_
    have : toAt x.vars v = x.vars[v]'(by omega) := by simp [toAt, hvl, hv]
    rw [this]; exact F.vars _ (List.getElem_mem _)
  · exact Do_rest w ok n x vv vl ts hn hx hl hts (by omega) hlen F.a0 F.a
theorem fitted_calls (w : World) (x : ActF) (vv : Value) (n made : Nat) (hn : 0 < n ∧ n ≤ 30) (hm : 0 < made ∧ made ≤ 4294967296) (hx : SeesW w (Value.int .i64) vv x.vars) (hi : I64 x.kind ∧ I64 x.a ∧ I64 x.b ∧ I64 x.c ∧ ∀ v ∈ x.vars, I64 v) :
    Calls Try.prog 29 #[.agg #[.int .i64 x.kind, .int .i64 x.a, .int .i64 x.b, .int .i64 x.c, vv], .int .i64 n, .int .i64 made] w (FitPost w (fittedF x n made)) := by
  by_cases h : fitF x.kind 8 = 0
  · exact fitted_var w x vv n made (by omega) (by omega) hx hi h
  · exact fitted_rest w x vv n made (by omega) (by omega) hx hi h
theorem Good.tabLen {n : Nat} {s : Sto} {l : List Int} {t : List (List Bool)} (G : Go.Bdd.Good n s l t) : ∀ a : Int, 0 ≤ a ∧ a < t.length → (tab t a).length = 2 ^ n := fun a ⟨h0, h1⟩ => by
  have := (G.get h0 (by rw [G.len]; exact h1)).2
  rw [this, tabOf_len]

theorem own_eq {g h n c : Nat} (e : (Value.slice (some ⟨g, 0, none⟩) n c).ownBlock = some h) : g = h := by simpa [Value.ownBlock] using e
/-! ### What the two appends of a round leave -/
structure AfterL (w : World) (own : Nat → Prop) (w3 : World) (own2 : Nat → Prop) (p : Nat) (s2 : Sto) (vl' vt vx : Value) (l' : List Int) (t : List (List Bool)) (ys : List Int) (X : Nat) (o : Obj) : Prop where
  S : StoreAt w3 own2 p s2
  M : Moves own w own2 w3
  L : Lay w3 own2 vl' vt l' t
  x : w3.heap[X]? = some o
  v : Sees w3 (Value.int .i64) vx ys
  n : ∀ g, vl'.ownBlock = some g → w.heap.size ≤ g
theorem after_l {w w2 w3 : World} {own own2 : Nat → Prop} {p gl2 X : Nat} {s2 : Sto} {vl vt vx vl' : Value} {l : List Int} {f : Int} {t : List (List Bool)} {ys : List Int} {o cells : Obj} (hS : StoreAt w2 own2 p s2) (hM : Moves own w own2 w2) (hL : Lay w2 own2 vl vt l t) (hn : ∀ g, vl.ownBlock = some g → w.heap.size ≤ g)
    (hX : w2.heap[X]? = some o) (hlX : vl.ownBlock ≠ some X) (hv : Sees w2 (Value.int .i64) vx ys) (hlv : ∀ g, vl.ownBlock = some g → vx.ownBlock ≠ some g)
    (hrow : Row w3 3 (Value.int .i64) vl' (l ++ [f])) (hfr : Frm (fun b => vl.ownBlock = some b) (w2.alloc cells).drew w3) (hg : vl.ownBlock = some gl2 ∨ gl2 = w2.heap.size + 1) (he : vl'.ownBlock = some gl2) :
    AfterL w own w3 own2 p s2 vl' vt vx (l ++ [f]) t ys X o := by
  have hfr' : Frm (fun b => vl.ownBlock = some b) w2 w3 := ((Frm.refl _ _).alloc cells).drew.trans hfr fun _ _ h => h
  have hg' : vl.ownBlock = some gl2 ∨ w2.heap.size ≤ gl2 := hg.imp id fun h => by omega
  refine ⟨hS.frm hfr' fun b hb h => (hL.lo b h).1 hb, ⟨hM.1.trans hfr' fun x hx h => by have := hn x h; omega, hM.2⟩, hL.pushL hS.ownlt hrow hfr' fun g hg2 => ?_, blk_frm hX hfr' hlX, hv.frm hfr' fun g hg2 _ h => ?_, fun g hg2 => ?_⟩
  · rw [he] at hg2; cases hg2; exact hg'
  · obtain ⟨o', n', c', rfl⟩ := hg2; exact hlv g h rfl
  · rw [he] at hg2; cases hg2
    rcases hg' with h | h
    · exact hn _ h
    · exact Nat.le_trans hM.1.size h

theorem tok_new {w3 w4 : World} {own2 : Nat → Prop} {p : Nat} {s2 : Sto} {vl vt u : Value} {l : List Int} {t : List (List Bool)} {tt : List Bool} (hS : StoreAt w3 own2 p s2) (hL : Lay w3 own2 vl vt l t) (hf : Frm (fun _ => False) w3 w4) (hs : Sees w4 Value.bool u tt) (hne : tt ≠ []) (hb : ∀ g, InBlk u g → TOk w3 own2 vl vt g ∨ w3.heap.size ≤ g) (g : Nat) (hg : InBlk u g) : TOk w4 own2 vl vt g := by
  rcases hb g hg with h | h
  · exact ⟨Nat.lt_of_lt_of_le h.1 hf.size, h.2⟩
  · obtain ⟨vs, r1, _, _⟩ := hL.rt
    exact ⟨hs.inlt hg hne, fun o => by have := hS.ownlt g o; omega, fun e => by have := hL.rl.lt g e; omega, fun e => by have := r1.lt g e; omega⟩

theorem after_t {w w3 w4 w5 : World} {own own2 : Nat → Prop} {p gt2 : Nat} {s2 : Sto} {vl vt u vt' : Value} {l : List Int} {t : List (List Bool)} {tt : List Bool} {vs : List Value} {cells : Obj} (hS : StoreAt w3 own2 p s2) (hM : Moves own w own2 w3) (hL : Lay w3 own2 vl vt l t) (hf : Frm (fun _ => False) w3 w4) (hn : ∀ g, vt.ownBlock = some g → w.heap.size ≤ g)
    (hs : Sees w4 Value.bool u tt) (hne : tt ≠ []) (hb : ∀ g, InBlk u g → TOk w3 own2 vl vt g ∨ w3.heap.size ≤ g)
    (hv : Row w4 33 (fun u => u) vt vs) (hvl : vs.length = t.length) (hvs : ∀ (i : Nat) u t', vs[i]? = some u → t[i]? = some t' → Sees w4 Value.bool u t' ∧ ∀ g, InBlk u g → TOk w4 own2 vl vt g)
    (hrow : Row w5 33 (fun u => u) vt' (vs ++ [u])) (hfr : Frm (fun b => vt.ownBlock = some b) (w4.alloc cells) w5) (hg : vt.ownBlock = some gt2 ∨ gt2 = w4.heap.size + 1) (he : vt'.ownBlock = some gt2) :
    StoreAt w5 own2 p s2 ∧ Moves own w own2 w5 ∧ Lay w5 own2 vl vt' l (t ++ [tt]) ∧ ∀ g, vt'.ownBlock = some g → w.heap.size ≤ g := by
  have hfr' : Frm (fun b => vt.ownBlock = some b) w4 w5 := ((Frm.refl _ _).alloc cells).trans hfr fun _ _ h => h
  have hg' : vt.ownBlock = some gt2 ∨ w4.heap.size ≤ gt2 := hg.imp id fun h => by omega
  have hS4 := hS.frm hf fun _ _ => id
  have hL4 := hL.frm0 hf
  have hM4 : Moves own w own2 w4 := ⟨hM.1.trans hf fun _ _ h => h.elim, hM.2⟩
  refine ⟨hS4.frm hfr' fun b hb h => hL4.to b h hb, ⟨hM4.1.trans hfr' fun x hx h => by have := hn x h; omega, hM4.2⟩, hL4.pushT hS4.ownlt hv hvl hvs hrow hfr' (fun g hg2 => ?_) hs fun g hg2 => tok_new hS hL hf hs hne hb g hg2, fun g hg2 => ?_⟩
  · rw [he] at hg2; cases hg2; exact hg'
  · rw [he] at hg2; cases hg2
    rcases hg' with h | h
    · exact hn _ h
    · exact Nat.le_trans hM4.1.size h
theorem info_bools : (Try.prog.info? 33).map (fun i => (i.zero, i.size, i.bytes)) = some (some (.slice none 0 0), 1, 24) := by kernel_rfl
end LawW
end Go.Proofs.Ytjajpdmmoiiojaa
