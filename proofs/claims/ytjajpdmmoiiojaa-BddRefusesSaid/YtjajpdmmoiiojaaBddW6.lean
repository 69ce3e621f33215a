/- Package bdd, walked on: over, whatever the closure does, comes to what overF computes. -/
import Derived.Test.YtjajpdmmoiiojaaBddW5
namespace Go.Proofs.Ytjajpdmmoiiojaa
open Go.RowKit Go.Mem Go.Bdd
namespace BddW

theorem keyInt : KeyEnc Try.prog 3 (Value.int .i64) := keyEnc_int Try.underlying3

def NodesAt (w : World) (p : Nat) (l : List T3) : Prop :=
  ∃ g cap, w.cell? ⟨p, 2, none⟩ = some (.slice (some ⟨g, 0, none⟩) l.length cap) ∧ g < w.heap.size ∧ ∀ f n, nth l f = some n → w.cell? ⟨g, f.toNat * 3, none⟩ = some (.int .i64 n.1) ∧ w.cell? ⟨g, f.toNat * 3 + 1, none⟩ = some (.int .i64 n.2.1) ∧ w.cell? ⟨g, f.toNat * 3 + 2, none⟩ = some (.int .i64 n.2.2)
theorem StoreAt.nodes {w : World} {own : Nat → Prop} {p : Nat} {s : Sto} (h : StoreAt w own p s) : NodesAt w p s.l := by
  obtain ⟨lv, mf, mk, H⟩ := h
  obtain ⟨_, _, c2, _⟩ := H.cells
  obtain ⟨g, cap, rfl, h1, _, hn⟩ := H.slice
  exact ⟨g, cap, c2, H.lt g h1, hn⟩

abbrev MII := List (Int × Int)
abbrev IMap (w : World) (d : Nat) (m : MII) : Prop := MapAt w d (Value.int .i64) (Value.int .i64) m

structure Closure {σ : Type} (Rep : World → (Nat → Prop) → σ → Prop) (lst : σ → List T3) (p d : Nat) (fid : FuncId) (cap : Array Value) (one : σ → Int → Int → Int → Option ((Int × Int) × σ)) : Prop where
  frm : ∀ {w w' : World} {own : Nat → Prop} {s : σ}, Rep w own s → Frm (fun b => b = d) w w' → ¬ own d → Rep w' own s
  nodes : ∀ {w : World} {own : Nat → Prop} {s : σ}, Rep w own s → NodesAt w p (lst s)
  lt : ∀ {w : World} {own : Nat → Prop} {s : σ}, Rep w own s → ∀ b, own b → b < w.heap.size
  plt : ∀ {w : World} {own : Nat → Prop} {s : σ}, Rep w own s → p < w.heap.size
  call : ∀ (w : World) (own : Nat → Prop) (s : σ) (v no yes : Int) (r : Int × Int) (s' : σ), Rep w own s → one s v no yes = some (r, s') →
    Calls Try.prog fid (#[.int .i64 v, .int .i64 no, .int .i64 yes] ++ cap) w fun e w' => e = .returned (.tuple #[.int .i64 r.1, .int .i64 r.2]) ∧ ∃ own', Rep w' own' s' ∧ Moves own w own' w'
  enter : ∀ (args : Array Value) (w : World), (callFunc fid args).run Try.prog w = .ok (.enter fid args) w

def OvPost {σ : Type} (Rep : World → (Nat → Prop) → σ → Prop) (own : Nat → Prop) (w : World) (d : Nat) (r : Int × Int) (s' : σ) (m' : MII) (e : Ending) (w' : World) : Prop :=
  e = .returned (.tuple #[.int .i64 r.1, .int .i64 r.2]) ∧ ∃ own', Rep w' own' s' ∧ IMap w' d m' ∧ ¬ own' d ∧ Frm (fun b => own b ∨ b = d) w w' ∧ ∀ b, own' b → own b ∨ w.heap.size ≤ b

set_option maxRecDepth 100000 in
set_option maxHeartbeats 4000000 in
theorem over_calls {σ : Type} {Rep : World → (Nat → Prop) → σ → Prop} {lst : σ → List T3} {p d : Nat} {fid : FuncId} {cap : Array Value} {one : σ → Int → Int → Int → Option ((Int × Int) × σ)} (C : Closure Rep lst p d fid cap one) :
    ∀ (k : Nat) (w : World) (own : Nat → Prop) (s : σ) (m : MII) (f : Int) (r : Int × Int) (s' : σ) (m' : MII), Rep w own s → IMap w d m → ¬ own d → overF lst one k s m f = some (r, s', m') →
      Calls Try.prog 41 #[.pointer (some ⟨p, 0, none⟩), .int .i64 f, .map (some d), .func (.func fid) #[] cap] w (OvPost Rep own w d r s' m')
  | 0, w, own, s, m, f, r, s', m', _, _, _, hr => by simp [overF] at hr
  | k + 1, w, own, s, m, f, r, s', m', hR, hm, hd, hr => by
    have ih := Lib.hid (over_calls C k)
    have hcf := C.enter
    rw [overF] at hr
    by_cases h2 : f < 2
    · rw [if_pos h2] at hr
      cases hr
      have hfin := Lib.hid (show OvPost Rep own w d (f, 0) s m (.returned (.tuple #[.int .i64 f, .int .i64 0])) w from ⟨rfl, own, hR, hm, hd, Frm.refl _ _, fun _ h => .inl h⟩)
      clear hR hm hd ih
      go_enter Try.func41, Try.ntmps41
      go_wp2
      go_ret2
      exact hfin.out
    · rw [if_neg h2] at hr
      have hlk := lookup_run keyInt Try.underlying94 zeroInt hm f true
      simp only [if_true] at hlk
      cases hget : mget m f with
      | some x =>
        rw [hget] at hr
        cases hr
        have hlk' : (Instr.lookup 94 (.map (some d)) (.int .i64 f) true).run Try.prog w = .ok (.tuple #[.int .i64 x, .bool true]) w := by rw [hlk]; simp [mval, hget]
        have hfin := Lib.hid (show OvPost Rep own w d (x, 0) s m (.returned (.tuple #[.int .i64 x, .int .i64 0])) w from ⟨rfl, own, hR, hm, hd, Frm.refl _ _, fun _ h => .inl h⟩)
        clear hR hm hd ih hlk hget
        go_enter Try.func41, Try.ntmps41
        go_wp2
        go_ret2
        exact hfin.out
      | none =>
        rw [hget] at hr
        simp only at hr
        have hlk' : (Instr.lookup 94 (.map (some d)) (.int .i64 f) true).run Try.prog w = .ok (.tuple #[.int .i64 0, .bool false]) w := by rw [hlk]; simp [mval, hget]
        clear hlk hget
        cases hn : nth (lst s) f with
        | none => rw [hn] at hr; cases hr
        | some n =>
        rw [hn] at hr
        obtain ⟨n0, n1, n2⟩ := n
        simp only at hr
        obtain ⟨g, gc, c2, hgl, hcells⟩ := C.nodes hR
        obtain ⟨x0, x1, x2⟩ := hcells f _ hn
        obtain ⟨lf0, lf1⟩ := nth_lt hn
        have hlt := C.plt hR
        have hdl := hm.lt
        clear hcells hn
        have hnb : ¬ own w.heap.size := fun h => by have := C.lt hR _ h; omega
        -- the world behind 'n := s.l[f]'
        have hR1 : Rep (w.alloc (.cells #[.int .i64 n0, .int .i64 n1, .int .i64 n2] 63)) own s := C.frm hR ((Frm.refl _ _).alloc _) hd
        have hm1 : IMap (w.alloc (.cells #[.int .i64 n0, .int .i64 n1, .int .i64 n2] 63)) d m := mapAt_of_block hm (Below.heap_alloc _ _ _ hdl)
        have hF1 : Frm (fun b => own b ∨ b = d) w (w.alloc (.cells #[.int .i64 n0, .int .i64 n1, .int .i64 n2] 63)) := (Frm.refl _ _).alloc _
        have hX1 : (w.alloc (.cells #[.int .i64 n0, .int .i64 n1, .int .i64 n2] 63)).heap[w.heap.size]? = some (.cells #[.int .i64 n0, .int .i64 n1, .int .i64 n2] 63) := blk_new _
        cases h0 : overF lst one k s m n1 with
        | none => rw [h0] at hr; cases hr
        | some q0 =>
        obtain ⟨⟨r0, e0⟩, s0, m0⟩ := q0
        rw [h0] at hr
        simp only at hr
        have H0 := Lib.hid (ih.out _ own s m n1 _ _ _ hR1 hm1 hd h0)
        have Hr := Lib.hid hr
        clear hr h0 hR hm hR1 hm1
        go_enter Try.func41, Try.ntmps41
        go_wp2_with fail
        refine H0.out.mono ?_
        rintro e w2 ⟨rfl, own2, hR2, hm2, hd2, hF2, ho2⟩
        have hFF2 := hF1.trans hF2 fun _ _ h => h
        have hoo2 : ∀ b, own2 b → own b ∨ w.heap.size ≤ b := fun b h => by
          rcases ho2 b h with h | h
          · exact .inl h
          · exact .inr (by simp at h; omega)
        have hX2 := blk_frm hX1 hF2 (fun h => by rcases h with h | h; exact hnb h; omega)
        have hnb2 : ¬ own2 w.heap.size := fun h => by rcases ho2 _ h with h | h; exact hnb h; simp at h; omega
        clear hF1 hX1 hF2 ho2 hlk' x0 x1 x2 c2
        by_cases he0 : e0 = 0
        case neg =>
          have hr := Hr.out
          simp only [ne_eq, he0, not_false_eq_true, if_true] at hr
          cases hr
          have b : (e0 != 0) = true := by simp [he0]
          clear Hr he0
          go_wp2
          go_ret2
          exact ⟨rfl, own2, hR2, hm2, hd2, hFF2, hoo2⟩
        case pos =>
          subst he0
          have hr := Hr.out
          simp only [ne_eq, not_true_eq_false, if_false] at hr
          clear Hr
          cases h1 : overF lst one k s0 m0 n2 with
          | none => rw [h1] at hr; cases hr
          | some q1 =>
          obtain ⟨⟨r1, e1⟩, s1, m1⟩ := q1
          rw [h1] at hr
          simp only at hr
          have H1 := Lib.hid (ih.out _ own2 s0 m0 n2 _ _ _ hR2 hm2 hd2 h1)
          have Hr := Lib.hid hr
          have x2 : w2.cell? ⟨w.heap.size, 2, none⟩ = some (.int .i64 n2) := blk_cell hX2 2
          clear hr h1 hR2 hm2
          go_wp2_with fail
          refine H1.out.mono ?_
          rintro e w3 ⟨rfl, own3, hR3, hm3, hd3, hF3, ho3⟩
          have hFF3 := hFF2.trans hF3 fun x hx h => by
            rcases h with h | h
            · rcases hoo2 x h with h | h
              · exact .inl h
              · omega
            · exact .inr h
          have hsz2 := hFF2.size
          have hoo3 : ∀ b, own3 b → own b ∨ w.heap.size ≤ b := fun b h => by
            rcases ho3 b h with h | h
            · exact hoo2 b h
            · exact .inr (by omega)
          have hl2 := lt_of_block hX2
          have hX3 := blk_frm hX2 hF3 (fun h => by rcases h with h | h; exact hnb2 h; omega)
          have hnb3 : ¬ own3 w.heap.size := fun h => by rcases ho3 _ h with h | h; exact hnb2 h; omega
          clear hFF2 hoo2 hF3 ho3 x2 hX2
          by_cases he1 : e1 = 0
          case neg =>
            have hr := Hr.out
            simp only [ne_eq, he1, not_false_eq_true, if_true] at hr
            cases hr
            have b : (e1 != 0) = true := by simp [he1]
            clear Hr he1
            go_wp2
            go_ret2
            exact ⟨rfl, own3, hR3, hm3, hd3, hFF3, hoo3⟩
          case pos =>
            subst he1
            have hr := Hr.out
            simp only [ne_eq, not_true_eq_false, if_false] at hr
            clear Hr
            cases ho : one s1 n0 r0 r1 with
            | none => rw [ho] at hr; cases hr
            | some q2 =>
            obtain ⟨⟨r2, e2⟩, s2⟩ := q2
            rw [ho] at hr
            simp only [Option.some.injEq, Prod.mk.injEq] at hr
            obtain ⟨hra, hrb, hrc⟩ := hr
            have Ho := Lib.hid (C.call w3 own3 s1 n0 r0 r1 _ _ hR3 ho)
            have x0 : w3.cell? ⟨w.heap.size, 0, none⟩ = some (.int .i64 n0) := blk_cell hX3 0
            subst hrb
            subst hra
            have Hrc := Lib.hid hrc
            clear hrc ho hR3
            go_wp2_with fail
            refine Ho.out.mono ?_
            rintro e w4 ⟨rfl, own4, hR4, hM4⟩
            have hm4 := hm3.frm hM4.1 hd3
            have hd4 : ¬ own4 d := fun h => by rcases hM4.2 d h with h | h; exact hd3 h; have := hm3.lt; omega
            have hsz3 := hFF3.size
            have hFF4 := hFF3.trans hM4.1 fun x hx h => by rcases hoo3 x h with h | h; exact .inl h; omega
            have hoo4 : ∀ b, own4 b → own b ∨ w.heap.size ≤ b := fun b h => by
              rcases hM4.2 b h with h | h
              · exact hoo3 b h
              · exact .inr (by omega)
            clear hFF3 hoo3 hm3 hM4 x0
            by_cases he2 : e2 = 0
            case neg =>
              have hmm : m' = m1 := by rw [← Hrc.out]; simp [he2]
              have b : (e2 == 0) = false := by simp [he2]
              have Hmm := Lib.hid hmm
              clear he2 hmm
              go_wp2
              go_ret2
              exact ⟨rfl, own4, hR4, by rw [Hmm.out]; exact hm4, hd4, hFF4, hoo4⟩
            case pos =>
              subst he2
              have hmm : m' = mput m1 f r2 := by rw [← Hrc.out]; simp
              have Hmm := Lib.hid hmm
              clear hmm
              go_wp2_with (first | (at_mapUpdate; refine wpList_update rfl _ _ _ 94 rfl keyInt Try.underlying94 f r2 rfl rfl rfl hm4 ?_; intro w5 hm5 hg5))
              go_ret2
              have hF5 := Frm.of_grown hg5
              have hsz4 := hFF4.size
              exact ⟨rfl, own4, C.frm hR4 (hF5.mono fun x _ e => by cases e; rfl) hd4, by rw [Hmm.out]; exact hm5, hd4, hFF4.trans hF5 fun x _ h => by cases h; exact .inr rfl, hoo4⟩
end BddW
end Go.Proofs.Ytjajpdmmoiiojaa
