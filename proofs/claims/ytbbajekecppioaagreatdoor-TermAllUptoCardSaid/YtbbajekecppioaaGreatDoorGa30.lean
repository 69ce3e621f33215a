/- What Eval and Vars find. No walk. -/
import Derived.Test.YtbbajekecppioaaGreatDoorGa29
set_option linter.unusedSimpArgs false
set_option linter.unusedVariables false
namespace Go.Proofs.YtbbajekecppioaaGreatDoor
open Go.RowKit Go.Mem Go.Wd Go.Tp
namespace TmW
/-- Each part of a term, taken once, parts first: what is kept of what was taken. -/
theorem eachF_run {σ : Type} {l : List TNode} {take : σ → Int → Option σ} (hk : ∀ f n, nth l f = some n → ∀ k ∈ n.kids, 0 ≤ k ∧ k < f)
    (I : σ → List Int → Prop)
    (hT : ∀ (s : σ) (done : List Int) (f : Int) (n : TNode), nth l f = some n → I s done → f ∉ done → (∀ k ∈ n.kids, k ∈ done) → ∃ s', take s f = some s' ∧ I s' (f :: done)) :
    ∀ (k : Nat) (f : Int) (seen : List (Int × Int)) (s : σ) (done : List Int), f < k → (nth l f).isSome → (∀ g, (mget seen g).isSome → g ∈ done ∨ f < g) → (∀ g ∈ done, (mget seen g).isSome) → I s done →
      ∃ seen' s' done', eachF (kidsF l) take k (seen, s) f = some (seen', s') ∧ (∀ g, (mget seen' g).isSome ↔ (mget seen g).isSome ∨ g ∈ done') ∧ I s' done' ∧ f ∈ done' ∧ (∀ g ∈ done, g ∈ done') ∧ (∀ g ∈ done', g ∈ done ∨ g ≤ f)
  | 0, f, _, _, _, hf, hs, _, _, _ => by
    obtain ⟨n, hn⟩ := Option.isSome_iff_exists.1 hs
    have := nth_lt hn
    omega
  | k + 1, f, seen, s, done, hf, hs, h1, h2, h3 => by
    obtain ⟨n, hn⟩ := Option.isSome_iff_exists.1 hs
    by_cases hse : (mget seen f).isSome = true
    · refine ⟨seen, s, done, ?_, fun g => ⟨.inl, fun h => h.elim id (h2 g)⟩, h3, (h1 f hse).resolve_right (by omega), fun _ h => h, fun _ h => .inl h⟩
      unfold Tp.eachF
      rw [if_pos hse]
    · have hkn : kidsF l f = n.kids := by unfold kidsF; rw [hn]
      have hfd : f ∉ done := fun h => hse (h2 f h)
      have loop : ∀ (ks : List Int) (seen : List (Int × Int)) (s : σ) (done : List Int), (∀ x ∈ ks, x ∈ n.kids) → (∀ g, (mget seen g).isSome → g ∈ done ∨ f ≤ g) → (∀ g ∈ done, (mget seen g).isSome) → I s done →
          ∃ seen' s' done', eachF.eachL (eachF (kidsF l) take k) (seen, s) ks = some (seen', s') ∧ (∀ g, (mget seen' g).isSome ↔ (mget seen g).isSome ∨ g ∈ done') ∧ I s' done' ∧ (∀ x ∈ ks, x ∈ done') ∧ (∀ g ∈ done, g ∈ done') ∧ (∀ g ∈ done', g ∈ done ∨ g < f) := by
        intro ks
        induction ks with
        | nil => exact fun seen s done _ _ b c => ⟨seen, s, done, rfl, fun g => ⟨.inl, fun h => h.elim id (b g)⟩, c, by simp, fun _ h => h, fun _ h => .inl h⟩
        | cons x r ih =>
          intro seen s done a b c d
          have hx := hk f n hn x (a x (by simp))
          have hxs : (nth l x).isSome := by
            have := nth_lt hn
            obtain ⟨m, hm⟩ := nth_some (l := l) (f := x) ⟨hx.1, by omega⟩
            rw [hm]; rfl
          obtain ⟨seen1, s1, done1, e1, q1, i1, m1, k1, z1⟩ := eachF_run hk I hT k x seen s done (by omega) hxs (fun g hg => (b g hg).imp id (by omega)) c d
          obtain ⟨seen2, s2, done2, e2, q2, i2, m2, k2, z2⟩ := ih seen1 s1 done1 (fun y hy => a y (by simp [hy])) (fun g hg => by
            rcases (q1 g).1 hg with h | h
            · exact (b g h).imp (k1 g) id
            · exact .inl h) (fun g hg => (q1 g).2 (.inr hg)) i1
          refine ⟨seen2, s2, done2, ?_, fun g => ?_, i2, fun y hy => ?_, fun g hg => k2 g (k1 g hg), fun g hg => ?_⟩
          · unfold Tp.eachF.eachL
            rw [e1]
            exact e2
          · rw [q2, q1]
            constructor
            · rintro ((h | h) | h)
              · exact .inl h
              · exact .inr (k2 g h)
              · exact .inr h
            · rintro (h | h)
              · exact .inl (.inl h)
              · exact .inr h
          · rcases List.mem_cons.1 hy with rfl | hy
            · exact k2 _ m1
            · exact m2 y hy
          · rcases z2 g hg with h | h
            · rcases z1 g h with h | h
              · exact .inl h
              · exact .inr (by omega)
            · exact .inr h
      obtain ⟨seen1, s1, done1, e1, q1, i1, m1, k1, z1⟩ := loop n.kids (mput seen f f) s done (fun _ h => h) (fun g hg => by
        rw [mget_mput] at hg
        split at hg
        · rename_i hc
          have hc : g = f := by simpa [eq_comm] using hc
          exact .inr (by omega)
        · exact (h1 g hg).imp id (by omega)) (fun g hg => by
        rw [mget_mput]
        split
        · rfl
        · exact h2 g hg) h3
      have hf1 : f ∉ done1 := fun h => (z1 f h).elim hfd (by omega)
      obtain ⟨s', hs', i'⟩ := hT s1 done1 f n hn i1 hf1 m1
      refine ⟨seen1, s', f :: done1, ?_, fun g => ?_, i', by simp, fun g hg => by simp [k1 g hg], fun g hg => ?_⟩
      · unfold Tp.eachF
        rw [if_neg hse, hkn, e1]
        show (take s1 f).map _ = _
        rw [hs']
        rfl
      · rw [q1, mget_mput]
        constructor
        · rintro (h | h)
          · split at h
            · rename_i hc
              have hc : g = f := by simpa [eq_comm] using hc
              exact .inr (by simp [hc])
            · exact .inl h
          · exact .inr (by simp [h])
        · rintro (h | h)
          · left; split
            · rfl
            · exact h
          · rcases List.mem_cons.1 h with rfl | h
            · left; rw [if_pos (by simp)]; rfl
            · exact .inr h
      · rcases List.mem_cons.1 hg with rfl | hg
        · exact .inr (by omega)
        · exact (z1 g hg).imp id (by omega)
end TmW
end Go.Proofs.YtbbajekecppioaaGreatDoor
/- What Eval tells is what the term is worth; what Vars finds. No walk. -/
namespace Go.Proofs.YtbbajekecppioaaGreatDoor
open Go.RowKit Go.Mem Go.Wd Go.Tp
namespace TmW
theorem take_eval {told : List (Int × VVal)} {s : TPool} {D : Int → Nat} (h : Good (toldN told) s D) (m : List (Int × Nat)) (f : Int) (n : TNode) (hn : nth s.l f = some n) (hk : ∀ k ∈ n.kids, mget m k = some (D k)) : takeE s.l told m f = some (mput m f (D f)) := by
  have hv : ∀ k ∈ n.kids, valN m k = D k := fun k hk' => by unfold valN; rw [hk k hk']; rfl
  have hd := h.den f n hn
  unfold stepE at hd
  unfold takeE
  rw [hn]
  simp only
  cases h.shape f n hn with
  | num ho => rw [if_pos ho] at hd ⊢; rw [hd]
  | var ho =>
    have h1 : n.op ≠ sNum := by rw [ho]; decide
    rw [if_neg h1, if_pos ho] at hd ⊢
    rw [hd]
  | cast k ho _ _ hkk =>
    have h1 : n.op ≠ sNum := by rw [ho]; decide
    have h2 : n.op ≠ sVar := by rw [ho]; decide
    rw [if_neg h1, if_neg h2, if_pos ho] at hd
    rw [if_neg h1, if_neg h2]
    have hin := h.kin hn k (by rw [hkk]; simp)
    obtain ⟨nk, hnk⟩ := in_nth hin
    rw [hkk] at hd ⊢
    simp only [List.getLast?_singleton, hnk]
    rw [if_pos ho, if_pos trivial, hv k (by rw [hkk]; simp), hd]
    show some (mput m f (castF nk.t n.t (D k))) = some (mput m f (castF (typeF s k) n.t (D k)))
    rw [type_of hnk]
  | op ho =>
    have hnm := name_not _ (op_val (D := D) ho fun k hk => ⟨h.lt (h.kin hn k hk), h.right (h.kin hn k hk)⟩).2.2
    rw [if_neg hnm.1, if_neg hnm.2.1, if_neg hnm.2.2] at hd
    rw [if_neg hnm.1, if_neg hnm.2.1]
    have hne := typed_ne ho
    have hl3 : n.kids.length ≤ 3 := by rcases typedOk_inv ho with ⟨a, e, _⟩ | ⟨a, b, e, _⟩ | ⟨c, a, b, e, _⟩ <;> (rw [e]; simp)
    obtain ⟨nk, hnk⟩ := in_nth (h.kin hn _ (last_mem hne))
    have hlast : n.kids.getLast? = some (n.kids.getLastD 0) := by rw [List.getLastD_eq_getLast?, List.getLast?_eq_some_getLast hne]; rfl
    rw [hlast]
    simp only [hnk]
    rw [if_neg hnm.2.2, if_pos hl3, hd]
    have e1 : valsN m n.kids = n.kids.map D := List.map_congr_left hv
    rw [e1]
    show some (mput m f (applyF n.op nk.t (n.kids.map D)).1) = some (mput m f (applyF n.op (typeF s (n.kids.getLastD 0)) (n.kids.map D)).1)
    rw [type_of hnk]
theorem eval_run {told : List (Int × VVal)} {s : TPool} {D : Int → Nat} (h : Good (toldN told) s D) {f : Int} (hf : inP s f = true) :
    ∃ k m' mF, eachF.eachL (eachF (kidsF s.l) (takeE s.l told) k) ([], []) [f] = some (m', mF) ∧ valN mF f = D f := by
  obtain ⟨n, hn⟩ := in_nth hf
  obtain ⟨seen', s', done', e1, _, i1, m1, _⟩ := eachF_run (l := s.l) (take := takeE s.l told) h.kids (fun m done => ∀ g ∈ done, mget m g = some (D g)) (fun m done f n hn hI hfd hk => by
    refine ⟨_, take_eval h m f n hn fun k hk' => hI k (hk k hk'), fun g hg => ?_⟩
    rw [mget_mput]
    rcases List.mem_cons.1 hg with rfl | hg
    · rw [if_pos (by simp)]
    · rw [if_neg (by intro hc; apply hfd; have : f = g := by simpa using hc
                     rw [this]; exact hg)]
      exact hI g hg) (f.toNat + 1) f [] [] [] (by omega) (by rw [hn]; rfl) (fun g hg => by cases hg) (fun g hg => by cases hg) (fun g hg => by cases hg)
  refine ⟨f.toNat + 1, seen', s', ?_, ?_⟩
  · unfold Tp.eachF.eachL
    rw [e1]
    rfl
  · unfold valN; rw [i1 f m1]; rfl
def varOf (l : List TNode) (g : Int) : VVal := match nth l g with | some n => ⟨n.v, n.t, 0⟩ | none => ⟨0, (0, false), 0⟩
/-- The variables of a pool have these types, by their numbers. -/
def TypesOk (vs : List Ty) (s : TPool) : Prop := ∀ v t, mget s.types v = some t → 0 ≤ v ∧ vs[v.toNat]? = some t
theorem nodup_lt : ∀ (n : Nat) (l : List Nat), l.Nodup → (∀ x ∈ l, x < n) → l.length ≤ n
  | 0, l, _, h => by
    cases l with
    | nil => simp
    | cons a r => have := h a (by simp); omega
  | n + 1, l, hd, h => by
    have ih := nodup_lt n (l.erase n) (hd.erase n) fun x hx => by
      have := (hd.mem_erase_iff).1 hx
      have := h x this.2
      omega
    by_cases hm : n ∈ l
    · rw [List.length_erase_of_mem hm] at ih; omega
    · rw [List.erase_of_not_mem hm] at ih; omega
theorem vars_run {e : Int → Nat} {s : TPool} {D : Int → Nat} (h : Good e s D) {vs : List Ty} (hT : TypesOk vs s) (h12 : vs.length ≤ 12) {f : Int} (hf : inP s f = true) :
    ∃ k out, varsF s.l k f = some out ∧ out.length ≤ 12 ∧ ∀ x ∈ out, 0 ≤ x.v ∧ vs[x.v.toNat]? = some x.t := by
  obtain ⟨n, hn⟩ := in_nth hf
  have inj : ∀ a b x y, nth s.l a = some x → nth s.l b = some y → x.op = sVar → y.op = sVar → x.v = y.v → a = b := fun a b x y ha hb hx hy hv => by
    have ha1 := h.shape a x ha
    have hb1 := h.shape b y hb
    have e1 := h.vart a x ha hx
    have e2 := h.vart b y hb hy
    rw [hv, e2] at e1
    have ht : y.t = x.t := Option.some.inj e1
    have hxy : x = y := by
      cases ha1 with
      | num ho => rw [ho] at hx; exact absurd hx (by decide)
      | cast k ho => rw [ho] at hx; exact absurd hx (by decide)
      | op ho => exact absurd hx (name_not _ (op_val (D := D) ho fun k hk => ⟨h.lt (h.kin ha k hk), h.right (h.kin ha k hk)⟩).2.2).2.1
      | var _ hn1 _ hk1 _ =>
        cases hb1 with
        | num ho => rw [ho] at hy; exact absurd hy (by decide)
        | cast k ho => rw [ho] at hy; exact absurd hy (by decide)
        | op ho => exact absurd hy (name_not _ (op_val (D := D) ho fun k hk => ⟨h.lt (h.kin hb k hk), h.right (h.kin hb k hk)⟩).2.2).2.1
        | var _ hn2 _ hk2 _ =>
          cases x; cases y
          simp_all
    subst hxy
    have h1 := h.has a x ha
    have h2 := h.has b x hb
    rw [h1] at h2
    exact Option.some.inj h2
  have bound : ∀ idx : List Int, idx.Nodup → (∀ g ∈ idx, ∃ n, nth s.l g = some n ∧ n.op = sVar) → idx.length ≤ vs.length := fun idx hnd hv => by
    have hmem : ∀ g ∈ idx, (varOf s.l g).v.toNat ∈ List.range vs.length := fun g hg => by
      obtain ⟨m, hm, hmo⟩ := hv g hg
      obtain ⟨_, h2⟩ := hT _ _ (h.vart g m hm hmo)
      rw [List.mem_range]
      unfold varOf
      rw [hm]
      exact (List.getElem?_eq_some_iff.1 h2).1
    have hnd2 : (idx.map fun g => (varOf s.l g).v.toNat).Nodup := by
      rw [List.nodup_iff_pairwise_ne, List.pairwise_map] at *
      refine (List.pairwise_iff_forall_sublist).2 fun {a b} hab => ?_
      have hne := (List.pairwise_iff_forall_sublist).1 hnd hab
      have ha : a ∈ idx := hab.subset (by simp)
      have hb : b ∈ idx := hab.subset (by simp)
      intro he
      apply hne
      obtain ⟨x, hx, hxo⟩ := hv a ha
      obtain ⟨y, hy, hyo⟩ := hv b hb
      obtain ⟨p1, _⟩ := hT _ _ (h.vart a x hx hxo)
      obtain ⟨p2, _⟩ := hT _ _ (h.vart b y hy hyo)
      unfold varOf at he
      rw [hx, hy] at he
      simp only at he
      exact inj a b x y hx hy hxo hyo (by omega)
    have := nodup_lt vs.length _ hnd2 (fun y hy => by
      obtain ⟨g, hg, rfl⟩ := List.mem_map.1 hy
      exact List.mem_range.1 (hmem g hg))
    simpa using this
  obtain ⟨seen', s', done', e1, _, i1, m1, _⟩ := eachF_run (l := s.l) (take := takeV s.l) h.kids (fun out done => ∃ idx : List Int, idx.Nodup ∧ (∀ g ∈ idx, g ∈ done ∧ ∃ n, nth s.l g = some n ∧ n.op = sVar) ∧ out = idx.map (varOf s.l)) (fun out done f n hn hI hfd hk => by
    obtain ⟨idx, hnd, hm, rfl⟩ := hI
    unfold takeV
    rw [hn]
    simp only
    split
    · rename_i ho
      have hb := bound idx hnd fun g hg => (hm g hg).2
      rw [if_pos (by rw [List.length_map]; omega)]
      refine ⟨_, rfl, idx ++ [f], ?_, fun g hg => ?_, ?_⟩
      · rw [List.nodup_append]
        refine ⟨hnd, by simp, fun a ha b hb hab => ?_⟩
        obtain rfl := List.mem_singleton.1 hb
        subst hab
        exact hfd (hm a ha).1
      · rcases List.mem_append.1 hg with hg | hg
        · exact ⟨by simp [(hm g hg).1], (hm g hg).2⟩
        · obtain rfl := List.mem_singleton.1 hg
          exact ⟨by simp, n, hn, ho⟩
      · rw [List.map_append]
        show _ = _ ++ [varOf s.l f]
        unfold varOf
        rw [hn]
    · exact ⟨_, rfl, idx, hnd, fun g hg => ⟨by simp [(hm g hg).1], (hm g hg).2⟩, rfl⟩) (f.toNat + 1) f [] [] [] (by omega) (by rw [hn]; rfl) (fun g hg => by cases hg) (fun g hg => by cases hg) ⟨[], by simp, by simp, rfl⟩
  obtain ⟨idx, hnd, hm, rfl⟩ := i1
  refine ⟨f.toNat + 1, idx.map (varOf s.l), ?_, ?_, fun x hx => ?_⟩
  · unfold varsF Tp.eachF.eachL
    rw [e1]
    rfl
  · rw [List.length_map]
    have := bound idx hnd fun g hg => (hm g hg).2
    omega
  · obtain ⟨g, hg, rfl⟩ := List.mem_map.1 hx
    obtain ⟨_, n, hn, ho⟩ := hm g hg
    unfold varOf
    rw [hn]
    exact hT _ _ (h.vart g n hn ho)
end TmW
end Go.Proofs.YtbbajekecppioaaGreatDoor
/- Trees, by the document, and made terms by the calls. No walk. -/
namespace Go.Tp
open Go.Wd
inductive Tree where
  | mk (op : ByteArray) (t : Ty) (num : Nat) (v : Int) (kids : List Tree)
end Go.Tp
namespace Go.Proofs.YtbbajekecppioaaGreatDoor
open Go.RowKit Go.Mem Go.Wd Go.Tp
namespace TmW
def noTy : Ty := (0, false)
def typeK (op : ByteArray) (xt : Ty) (kinds : List Ty) : Ty × Bool :=
  if kinds.length = 0 ∨ 3 < kinds.length then (noTy, false)
  else
    let t := kinds.getLastD noTy
    if op = sCast then (xt, decide (kinds.length = 1) && rightF xt)
    else if kinds.length = 3 then (t, decide (op = sIte) && decide ((kinds.getD 0 noTy).1 = 1) && decide (kinds.getD 1 noTy = t))
    else if kinds.length = 1 then (t, (decide (op = sUNot) && decide (t.1 = 1)) || ((decide (op = sUNeg) || decide (op = sUTil)) && decide (1 < t.1)))
    else if kinds.getD 0 noTy ≠ t then (noTy, false)
    else if op = sLand ∨ op = sLor then ((1, false), decide (t = (1, false)))
    else if (testF t op 0 0).2 = 0 then ((1, false), true)
    else (t, decide ((doF t op 0 1).2 = 0))
def vtype (vs : List Ty) (v : Int) : Option Ty := if 0 ≤ v then vs[v.toNat]? else none
def evalK (op : ByteArray) (xt t : Ty) (v : List Nat) : Nat :=
  if op = sCast then castF t xt (v.getD 0 0)
  else if op = sIte then (if v.getD 0 0 = 1 then v.getD 1 0 else v.getD 2 0)
  else if op = sUNot ∨ op = sUNeg ∨ op = sUTil then (turnF t (op.extract 1 op.size) (v.getD 0 0)).1
  else if op = sLand then v.getD 0 0 * v.getD 1 0 % 2 ^ 64
  else if op = sLor then v.getD 0 0 ||| v.getD 1 0
  else if (testF t op (v.getD 0 0) (v.getD 1 0)).2 = 0 then (testF t op (v.getD 0 0) (v.getD 1 0)).1.toNat
  else (doF t op (v.getD 0 0) (v.getD 1 0)).1
mutual
def typeX (vs : List Ty) : Tree → Ty × Bool
  | .mk op t _ v kids =>
    if op = sNum then (t, rightF t)
    else if op = sVar then (match vtype vs v with | some u => (u, rightF u) | none => (noTy, false))
    else match kindsX vs kids with | some kinds => typeK op t kinds | none => (noTy, false)
def kindsX (vs : List Ty) : List Tree → Option (List Ty)
  | [] => some []
  | x :: r => if (typeX vs x).2 = true then (kindsX vs r).map fun l => (typeX vs x).1 :: l else none
end
def lastX (vs : List Ty) : List Tree → Ty
  | [] => noTy
  | [x] => (typeX vs x).1
  | _ :: y :: r => lastX vs (y :: r)
mutual
def evalX (vs : List Ty) (is : List Nat) : Tree → Nat
  | .mk op t num v kids =>
    if op = sNum then normF t num
    else if op = sVar then normF ((vtype vs v).getD noTy) (is.getD v.toNat 0)
    else evalK op t (lastX vs kids) (evalL vs is kids)
def evalL (vs : List Ty) (is : List Nat) : List Tree → List Nat
  | [] => []
  | x :: r => evalX vs is x :: evalL vs is r
end
mutual
def countX : Tree → Nat
  | .mk _ _ _ _ kids => 1 + countL kids
def countL : List Tree → Nat
  | [] => 0
  | x :: r => countX x + countL r
end
mutual
def buildF (vs : List Ty) : Tree → TPool → (Int × Int) × TPool
  | .mk op t num v kids, s =>
    if op = sNum then NumF s t num
    else if op = sVar then (match vtype vs v with | some u => VarF s u v | none => ((0, 102), s))
    else
      let b := buildL vs kids s
      if b.1.2 = 0 then (if op = sCast ∧ b.1.1.length = 1 then CastF b.2 t (b.1.1.headD 0) else DoF b.2 op b.1.1)
      else ((0, b.1.2), b.2)
def buildL (vs : List Ty) : List Tree → TPool → (List Int × Int) × TPool
  | [], s => (([], 0), s)
  | x :: r, s =>
    let a := buildF vs x s
    if a.1.2 = 0 then
      let b := buildL vs r a.2
      ((a.1.1 :: b.1.1, b.1.2), b.2)
    else (([], a.1.2), a.2)
end
/-- What a tree leaves that may be. -/
structure Built (vs : List Ty) (e : Int → Nat) (s : TPool) (D : Int → Nat) (r : (Int × Int) × TPool) (n : Nat) (t : Ty) (v : Nat) : Prop where
  err : r.1.2 = 0
  came : Came e s D r.2 r.1.1 t v
  len : r.2.l.length ≤ s.l.length + 2 * n
  types : TypesOk vs r.2
theorem TypesOk.of {vs : List Ty} {s s' : TPool} (h : TypesOk vs s) (he : s'.types = s.types) : TypesOk vs s' := fun v t hv => h v t (by rw [← he]; exact hv)
theorem Done.built {vs : List Ty} {e : Int → Nat} {s : TPool} {D : Int → Nat} {r : (Int × Int) × TPool} {t : Ty} {v : Nat} (h : Done e s D r t v) (hT : TypesOk vs s) {n : Nat} (hn : 1 ≤ n) : Built vs e s D r n t v := ⟨h.err, h.came, by have := h.len; omega, hT.of h.types⟩
theorem typed1_iff {t : Ty} (hr : rightF t = true) (op : ByteArray) (a : Nat) : (applyF op t [a]).2 = 0 ↔ (op = sUNot ∧ t.1 = 1) ∨ ((op = sUNeg ∨ op = sUTil) ∧ 1 < t.1) := by
  constructor
  · intro h
    obtain ⟨_, hm, hb⟩ := typed1 h
    rw [hb] at h
    unfold turnF at h
    rw [if_pos hr] at h
    simp only [List.mem_cons, List.not_mem_nil, or_false] at hm
    rcases hm with rfl | rfl | rfl
    · rw [if_neg (by intro hc; exact absurd hc.1 (by decide))] at h
      split at h
      · rename_i hc
        rcases hc with hc | hc
        · exact absurd hc.1 (by decide)
        · exact .inl ⟨rfl, hc.2⟩
      · simp at h
    · split at h
      · rename_i hc; exact .inr ⟨.inl rfl, hc.2⟩
      · rw [if_neg (by rintro (hc | hc) <;> exact absurd hc.1 (by decide))] at h
        simp at h
    · rw [if_neg (by intro hc; exact absurd hc.1 (by decide))] at h
      split at h
      · rename_i hc
        rcases hc with hc | hc
        · exact .inr ⟨.inr rfl, hc.2⟩
        · exact absurd hc.1 (by decide)
      · simp at h
  · rintro (⟨rfl, hw⟩ | ⟨rfl | rfl, hw⟩)
    · rw [applyF1, if_pos ⟨rfl, by rw [Lib.toList_data]; rfl⟩]
      unfold turnF
      rw [if_pos hr, if_neg (by intro hc; exact absurd hc.1 (by decide)), if_pos (.inr ⟨by decide, hw⟩)]
    · rw [applyF1, if_pos ⟨rfl, by rw [Lib.toList_data]; rfl⟩]
      unfold turnF
      rw [if_pos hr, if_pos ⟨by decide, hw⟩]
    · rw [applyF1, if_pos ⟨rfl, by rw [Lib.toList_data]; rfl⟩]
      unfold turnF
      rw [if_pos hr, if_neg (by intro hc; exact absurd hc.1 (by decide)), if_pos (.inl ⟨by decide, hw⟩)]
theorem do01 {t : Ty} (hr : rightF t = true) (op : ByteArray) : (doF t op 0 1).2 = 0 ↔ ∃ k, getF (opsF t) op = some k := by
  unfold doF
  rw [if_pos hr]
  cases getF (opsF t) op with
  | none => simp
  | some k => simp [norm_one hr]
theorem do00 {t : Ty} (hr : rightF t = true) {op : ByteArray} {k : Bin} (hg : getF (opsF t) op = some k) (a b : Nat) : (doF t op a b).2 = 11 ∨ (doF t op a b).2 = 0 := by
  unfold doF
  rw [if_pos hr, hg]
  simp only
  split
  · exact .inl rfl
  · exact .inr rfl
theorem typed2_iff {t : Ty} (hr : rightF t = true) (op : ByteArray) : (applyF op t [0, 0]).2 = 0 ↔ if op = sLand ∨ op = sLor then t = (1, false) else ((testF t op 0 0).2 = 0 ∨ (doF t op 0 1).2 = 0) := by
  constructor
  · intro h
    cases typed2 h with
    | logic ho ht => rw [if_pos ho]; exact ht
    | test hm _ h0 => split; (rename_i ho; exact ap_land ho h); exact .inl (h0 0 0)
    | word k hl _ _ hg => rw [if_neg (by rintro (h | h); exact hl.1 h; exact hl.2 h)]; exact .inr ((do01 hr op).2 ⟨k, hg⟩)
  · intro h
    rw [applyF2]
    split at h
    · rename_i ho
      rw [if_pos ⟨ho, h⟩]
    · rename_i ho
      rw [if_neg (fun hc => ho hc.1)]
      split
      · rfl
      · rename_i ht
        obtain ⟨k, hg⟩ := (do01 hr op).1 (h.resolve_left ht)
        rcases do00 hr hg 0 0 with h | h
        · rw [if_pos h]
        · rw [if_neg (by omega)]; exact h
end TmW
end Go.Proofs.YtbbajekecppioaaGreatDoor
/- A tree made a term by the calls is what the document's tree is. No walk. -/
namespace Go.Proofs.YtbbajekecppioaaGreatDoor
open Go.RowKit Go.Mem Go.Wd Go.Tp
namespace TmW
theorem right_one {t : Ty} (h : rightF t = true) : t.1 = 1 ↔ t = (1, false) := by
 constructor
 ·intro hw
  rcases right_iff.1 h with rfl | rfl | rfl | rfl | rfl | rfl | rfl | rfl | rfl <;> first | rfl | exact absurd hw (by decide)
 ·rintro rfl; rfl
theorem typeK_op {s : TPool} {op : ByteArray} (xt : Ty) {l : List Int} (hr : ∀ k ∈ l, rightF (typeF s k) = true) (hc : ¬ (op = sCast ∧ l.length = 1)) :
  (typeK op xt (l.map (typeF s))).2 = typedOk s op l ∧ (typedOk s op l = true → (typeK op xt (l.map (typeF s))).1 = resultF op (lastTy s l)) := by
 match l, hr, hc with
 | [], _, _ => exact ⟨rfl, fun h => by cases h⟩
 | [a], hr, hc =>
  have hr := hr a (by simp)
  have hop : op ≠ sCast := fun h => hc ⟨h, rfl⟩
  have hd : typedOk s op [a] = decide ((op = sUNot ∧ (typeF s a).1 = 1) ∨ ((op = sUNeg ∨ op = sUTil) ∧ 1 < (typeF s a).1)) := by
   rw [Bool.eq_iff_iff, decide_eq_true_iff, ← typed1_iff hr op 0]
   unfold typedOk
   simp [allTy]
  have hk : typeK op xt ([a].map (typeF s)) = (typeF s a, (decide (op = sUNot) && decide ((typeF s a).1 = 1)) || ((decide (op = sUNeg) || decide (op = sUTil)) && decide (1 < (typeF s a).1))) := by
   unfold typeK
   rw [if_neg (by simp)]
   simp only
   rw [if_neg hop, if_neg (by simp), if_pos (by simp)]
   rfl
  rw [hk, hd]
  refine ⟨?_, fun h => ?_⟩
  ·simp only [Bool.decide_or, Bool.decide_and]
  ·have h := of_decide_eq_true h
   have hnm : op = sUNot ∨ op = sUNeg ∨ op = sUTil := by rcases h with h | h; exact .inl h.1; exact .inr h.1
   show typeF s a = resultF op (typeF s a)
   rw [result_else (by rcases hnm with rfl | rfl | rfl <;> decide) (by rcases hnm with rfl | rfl | rfl <;> simp [tests])]
 | [a, b], hr, hc =>
  have hr := hr b (by simp)
  have hd : typedOk s op [a, b] = decide (typeF s a = typeF s b ∧ (applyF op (typeF s b) [0, 0]).2 = 0) := by
   unfold typedOk
   rw [Bool.eq_iff_iff]
   simp [allTy]
  rw [hd]
  have hk0 : typeK op xt ([a, b].map (typeF s)) = if op = sCast then (xt, false) else if typeF s a ≠ typeF s b then (noTy, false) else if op = sLand ∨ op = sLor then ((1, false), decide (typeF s b = (1, false))) else if (testF (typeF s b) op 0 0).2 = 0 then ((1, false), true) else (typeF s b, decide ((doF (typeF s b) op 0 1).2 = 0)) := by
   unfold typeK
   rw [if_neg (by simp)]
   simp only
   by_cases hop : op = sCast
   ·rw [if_pos hop, if_pos hop]; rfl
   ·rw [if_neg hop, if_neg hop, if_neg (by simp), if_neg (by simp)]
    rfl
  rw [hk0]
  by_cases hop : op = sCast
  ·rw [if_pos hop]
   have hn : ¬ (applyF op (typeF s b) [0, 0]).2 = 0 := fun h => by
    have := typed2_name (typed2 h)
    exact (name_not _ this).2.2 hop
   refine ⟨by simp [hn], fun h => absurd (of_decide_eq_true h).2 hn⟩
  ·rw [if_neg hop]
   by_cases hab : typeF s a = typeF s b
   ·rw [if_neg (fun h => h hab)]
    have hi := typed2_iff hr op
    by_cases ho : op = sLand ∨ op = sLor
    ·rw [if_pos ho] at hi ⊢
     refine ⟨by simp [hab, hi], fun _ => (result_logic ho _).symm⟩
    ·rw [if_neg ho] at hi ⊢
     by_cases ht : (testF (typeF s b) op 0 0).2 = 0
     ·rw [if_pos ht]
      refine ⟨by simp [hab, hi, ht], fun _ => (result_test ht).symm⟩
     ·rw [if_neg ht]
      refine ⟨by simp [hab, hi, ht], fun h => ?_⟩
      have h2 := (hi.1 (of_decide_eq_true h).2).resolve_left ht
      obtain ⟨k, hg⟩ := (do01 hr op).1 h2
      have hnm := get_names hg
      refine (result_else ⟨fun e => ho (.inl e), fun e => ho (.inr e)⟩ fun hm => ?_).symm
      simp only [List.mem_cons, List.not_mem_nil, or_false] at hnm
      rcases hnm with rfl | rfl | rfl | rfl | rfl | rfl | rfl | rfl | rfl | rfl <;> simp [tests] at hm
   ·rw [if_pos hab]
    refine ⟨by simp [hab], fun h => absurd (of_decide_eq_true h).1 hab⟩
 | [c, a, b], hr, hc =>
  have hrc := hr c (by simp)
  have hk0 : typeK op xt ([c, a, b].map (typeF s)) = if op = sCast then (xt, false) else (typeF s b, decide (op = sIte) && decide ((typeF s c).1 = 1) && decide (typeF s a = typeF s b)) := by
   unfold typeK
   rw [if_neg (by simp)]
   simp only
   by_cases hop : op = sCast
   ·rw [if_pos hop, if_pos hop]; rfl
   ·rw [if_neg hop, if_neg hop, if_pos (by simp)]
    rfl
  have hd : typedOk s op [c, a, b] = decide (op = sIte ∧ typeF s c = (1, false) ∧ typeF s a = typeF s b) := by
   rw [Bool.eq_iff_iff, decide_eq_true_iff]
   unfold typedOk
   by_cases ho : op = sIte
   ·simp [allTy, ho, applyF3]
   ·simp [allTy, ho, applyF3]
  rw [hk0, hd]
  by_cases hop : op = sCast
  ·rw [if_pos hop]
   have : op ≠ sIte := by rw [hop]; decide
   exact ⟨by simp [this], fun h => absurd (of_decide_eq_true h).1 this⟩
  ·rw [if_neg hop]
   refine ⟨?_, fun h => ?_⟩
   ·rw [Bool.eq_iff_iff]
    simp only [Bool.and_eq_true, decide_eq_true_iff, right_one hrc, and_assoc]
   ·obtain ⟨rfl, _⟩ := of_decide_eq_true h
    exact (result_else (by decide) (by simp [tests])).symm
 | _ :: _ :: _ :: _ :: _, _, _ =>
  refine ⟨?_, fun h => by cases h⟩
  unfold typeK
  rw [if_pos (.inr (by simp))]
  rfl
theorem and_bool {a b : Nat} (ha : a = 0 ∨ a = 1) (hb : b = 0 ∨ b = 1) : a * b % 2 ^ 64 = a &&& b := by
 rcases ha with rfl | rfl <;> rcases hb with rfl | rfl <;> decide
theorem evalK_op {s : TPool} {op : ByteArray} (xt : Ty) {l : List Int} {D : Int → Nat} (hb : ∀ k ∈ l, D k < 2 ^ wid (typeF s k)) (h : typedOk s op l = true) : evalK op xt (lastTy s l) (l.map D) = (applyF op (lastTy s l) (l.map D)).1 := by
 rcases typedOk_inv h with ⟨a, rfl, h'⟩ | ⟨a, b, rfl, hab, h'⟩ | ⟨c, a, b, rfl, rfl, hc, hab⟩
 ·obtain ⟨hr, hm, hbb⟩ := typed1 h'
  have hm' : op = sUNot ∨ op = sUNeg ∨ op = sUTil := by simpa using hm
  show evalK op xt (typeF s a) [D a] = (applyF op (typeF s a) [D a]).1
  rw [hbb]
  unfold evalK
  rw [if_neg (by rcases hm' with rfl | rfl | rfl <;> decide), if_neg (by rcases hm' with rfl | rfl | rfl <;> decide), if_pos hm']
  rfl
 ·show evalK op xt (typeF s b) [D a, D b] = (applyF op (typeF s b) [D a, D b]).1
  have la : D a < 2 ^ wid (typeF s b) := hab ▸ hb a (by simp)
  have lb : D b < 2 ^ wid (typeF s b) := hb b (by simp)
  have h2 := typed2 h'
  have hnm := typed2_name h2
  have hnot := name_not _ hnm
  unfold evalK
  rw [if_neg hnot.2.2]
  show (if op = sIte then _ else if op = sUNot ∨ op = sUNeg ∨ op = sUTil then _ else if op = sLand then D a * D b % 2 ^ 64 else if op = sLor then D a ||| D b else if (testF (typeF s b) op (D a) (D b)).2 = 0 then (testF (typeF s b) op (D a) (D b)).1.toNat else (doF (typeF s b) op (D a) (D b)).1) = _
  cases h2 with
  | logic ho ht =>
   rw [ht] at la lb ⊢
   rw [ap_land_val ho]
   rcases ho with rfl | rfl
   ·rw [if_neg (by decide), if_neg (by decide), if_pos rfl, if_pos rfl, and_bool (bool_lt la) (bool_lt lb)]
   ·rw [if_neg (by decide), if_neg (by decide), if_neg (by decide), if_pos rfl, if_neg (by decide)]
  | test hm hr h0 =>
   have hm' : op = sEq ∨ op = sNe ∨ op = sLt ∨ op = sLe ∨ op = sGt ∨ op = sGe := by simpa [tests] using hm
   have hl : op ≠ sLand ∧ op ≠ sLor := by rcases hm' with rfl | rfl | rfl | rfl | rfl | rfl <;> decide
   rw [ap_test hr hl (h0 _ _), if_neg (by rcases hm' with rfl | rfl | rfl | rfl | rfl | rfl <;> decide), if_neg (by rcases hm' with rfl | rfl | rfl | rfl | rfl | rfl <;> decide), if_neg hl.1, if_neg hl.2, if_pos (h0 _ _)]
  | word k hl hm hr hg =>
   have hm' := get_names hg
   simp only [List.mem_cons, List.not_mem_nil, or_false] at hm'
   have n1 : op ≠ sIte := by rcases hm' with rfl | rfl | rfl | rfl | rfl | rfl | rfl | rfl | rfl | rfl <;> decide
   have n2 : ¬ (op = sUNot ∨ op = sUNeg ∨ op = sUTil) := by rcases hm' with rfl | rfl | rfl | rfl | rfl | rfl | rfl | rfl | rfl | rfl <;> decide
   have n3 := test_no (t := typeF s b) (D a) (D b) (not_tests hm)
   rw [if_neg n1, if_neg n2, if_neg hl.1, if_neg hl.2, if_neg n3, applyF2, if_neg (by rintro ⟨h | h, _⟩; exact hl.1 h; exact hl.2 h), if_neg n3]
   split
   ·rename_i h11
    rw [do_bool hr hg] at h11 ⊢
    split at h11
    ·rename_i hz; rw [if_pos hz]
    ·simp at h11
   ·rfl
 ·show evalK sIte xt (typeF s b) [D c, D a, D b] = (applyF sIte (typeF s b) [D c, D a, D b]).1
  rw [applyF3, if_pos rfl]
  unfold evalK
  rw [if_neg (by decide), if_pos rfl]
  rfl
theorem last_kinds (vs : List Ty) : ∀ {l : List Tree} {kinds : List Ty}, kindsX vs l = some kinds → lastX vs l = kinds.getLastD noTy
 | [], kinds, h => by
  rw [kindsX] at h
  obtain rfl := Option.some.inj h
  rfl
 | [x], kinds, h => by
  rw [kindsX] at h
  split at h
  ·rw [kindsX] at h
   obtain rfl := Option.some.inj h
   rfl
  ·cases h
 | x :: y :: r, kinds, h => by
  rw [kindsX] at h
  split at h
  ·obtain ⟨l, hl, rfl⟩ := Option.map_eq_some_iff.1 h
   rw [lastX, last_kinds vs hl]
   have : l ≠ [] := by
    rintro rfl
    rw [kindsX] at hl
    split at hl
    ·obtain ⟨_, _, h2⟩ := Option.map_eq_some_iff.1 hl; cases h2
    ·cases hl
   rw [List.getLastD_eq_getLast?, List.getLastD_eq_getLast?, List.getLast?_cons_of_ne_nil this]
  ·cases h
theorem last_map {s : TPool} {l : List Int} (h : l ≠ []) : (l.map (typeF s)).getLastD noTy = lastTy s l := by
 unfold lastTy
 rw [List.getLastD_eq_getLast?, List.getLastD_eq_getLast?, List.getLast?_map, List.getLast?_eq_some_getLast h]
 rfl
end TmW
end Go.Proofs.YtbbajekecppioaaGreatDoor
