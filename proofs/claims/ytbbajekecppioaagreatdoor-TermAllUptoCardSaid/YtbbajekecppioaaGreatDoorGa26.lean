/- The pool's each walked: all parts, each once, parts first, whatever is done with them. -/
import Derived.Test.YtbbajekecppioaaGreatDoorGa10
import Derived.Laws.EntriesVeiled
set_option linter.unusedSimpArgs false
set_option linter.unusedVariables false
namespace Go.Tp
open Go.Mem
/-- Where the parts of a node stand: the walk's own order. 'seen' is who was there; σ is what the function makes. -/
def eachF {σ : Type} (kids : Int → List Int) (take : σ → Int → Option σ) : Nat → (List (Int × Int) × σ) → Int → Option (List (Int × Int) × σ)
  | 0, _, _ => none
  | k + 1, (seen, s), f =>
    if (mget seen f).isSome then some (seen, s)
    else (eachL (eachF kids take k) (mput seen f f, s) (kids f)).bind fun (seen', s') => (take s' f).map fun s'' => (seen', s'')
where eachL {σ : Type} (one : (List (Int × Int) × σ) → Int → Option (List (Int × Int) × σ)) : (List (Int × Int) × σ) → List Int → Option (List (Int × Int) × σ)
  | x, [] => some x
  | x, f :: l => (one x f).bind fun y => eachL one y l
end Go.Tp
namespace Go.Proofs.YtbbajekecppioaaGreatDoor
open Go.RowKit Go.Mem Go.Wd Go.Tp
namespace TmW
abbrev IMap (w : World) (d : Nat) (m : List (Int × Int)) : Prop := MapAt w d (Value.int .i64) (Value.int .i64) m
/-- What each needs of the function that it tells: of what it stands on (Rep), and what a call of it does. 'N' is the list of nodes that were there when each began. -/
structure Taker {σ : Type} (Rep : World → (Nat → Prop) → σ → Prop) (p : Nat) (N : List TNode) (fid : FuncId) (cap : Array Value) (take : σ → Int → Option σ) : Prop where
  frm : ∀ {S : Nat → Prop} {w w' : World} {own : Nat → Prop} {s : σ}, Rep w own s → Frm S w w' → (∀ b, own b → ¬ S b) → (∀ b, b < 2 → ¬ S b) → Rep w' own s
  pool : ∀ {w : World} {own : Nat → Prop} {s : σ}, Rep w own s → ∃ own1 s1, PoolAt w own1 p s1 ∧ (∀ b, own1 b → own b) ∧ ∀ f n, nth N f = some n → nth s1.l f = some n
  lt : ∀ {w : World} {own : Nat → Prop} {s : σ}, Rep w own s → ∀ b, own b → b < w.heap.size
  call : ∀ (w : World) (own : Nat → Prop) (s s' : σ) (f : Int), Rep w own s → take s f = some s' →
    Calls Tryz.prog fid (#[.int .i64 f] ++ cap) w fun e w' => e = .returned (.tuple #[]) ∧ ∃ own', Rep w' own' s' ∧ PMoves own w own' w'
  enter : ∀ (args : Array Value) (w : World), (callFunc fid args).run Tryz.prog w = .ok (.enter fid args) w
/-- The blocks of each's own: where 'seen', the pool, the walk itself and the function lie. -/
structure EachBox (w : World) (b6 b3 b7 b5 d p : Nat) (fid : FuncId) (cap : Array Value) : Prop where
  c6 : w.heap[b6]? = some (.cells #[.map (some d)] 92)
  c3 : w.heap[b3]? = some (.cells #[.pointer (some ⟨p, 0, none⟩)] 32)
  c7 : w.heap[b7]? = some (.cells #[.func (.func 59) #[] #[.pointer (some ⟨b6, 0, none⟩), .pointer (some ⟨b3, 0, none⟩), .pointer (some ⟨b7, 0, none⟩), .pointer (some ⟨b5, 0, none⟩)]] 80)
  c5 : w.heap[b5]? = some (.cells #[.func (.func fid) #[] cap] 80)
theorem EachBox.frm {S : Nat → Prop} {w w' : World} {b6 b3 b7 b5 d p : Nat} {fid : FuncId} {cap : Array Value} (h : EachBox w b6 b3 b7 b5 d p fid cap) (hf : Frm S w w') (hS : ¬ S b6 ∧ ¬ S b3 ∧ ¬ S b7 ∧ ¬ S b5) : EachBox w' b6 b3 b7 b5 d p fid cap :=
  ⟨blk_frm h.c6 hf hS.1, blk_frm h.c3 hf hS.2.1, blk_frm h.c7 hf hS.2.2.1, blk_frm h.c5 hf hS.2.2.2⟩
def EPost {σ : Type} (Rep : World → (Nat → Prop) → σ → Prop) (own : Nat → Prop) (w : World) (d : Nat) (m' : List (Int × Int)) (s' : σ) (e : Ending) (w' : World) : Prop :=
  e = .returned (.tuple #[]) ∧ ∃ own', Rep w' own' s' ∧ IMap w' d m' ∧ ¬ own' d ∧ Frm (fun b => own b ∨ b = d) w w' ∧ (∀ b, own' b → own b ∨ w.heap.size ≤ b) ∧ IntKept w w'
def kidsF (N : List TNode) (f : Int) : List Int := match nth N f with | some n => n.kids | none => []
set_option maxRecDepth 100000 in
set_option maxHeartbeats 4000000 in
theorem each1_calls {σ : Type} {Rep : World → (Nat → Prop) → σ → Prop} {p : Nat} {N : List TNode} {fid : FuncId} {cap : Array Value} {take : σ → Int → Option σ} (C : Taker Rep p N fid cap take) (b6 b3 b7 b5 d : Nat) (hd2 : 2 ≤ d) :
    ∀ (k : Nat) (w : World) (own : Nat → Prop) (s : σ) (m : List (Int × Int)) (f : Int) (s' : σ) (m' : List (Int × Int)), Rep w own s → IMap w d m → ¬ own d → EachBox w b6 b3 b7 b5 d p fid cap → (¬ own b6 ∧ ¬ own b3 ∧ ¬ own b7 ∧ ¬ own b5) → (nth N f).isSome →
      (∀ f n, nth N f = some n → ∀ g ∈ n.kids, (nth N g).isSome) → eachF (kidsF N) take k (m, s) f = some (m', s') →
      Calls Tryz.prog 59 (#[.int .i64 f] ++ #[.pointer (some ⟨b6, 0, none⟩), .pointer (some ⟨b3, 0, none⟩), .pointer (some ⟨b7, 0, none⟩), .pointer (some ⟨b5, 0, none⟩)]) w (EPost Rep own w d m' s')
  | 0, w, own, s, m, f, s', m', _, _, _, _, _, _, _, hr => by simp [eachF] at hr
  | k + 1, w, own, s, m, f, s', m', hR, hm, hd, hB, hob, hf, hN, hr => by
    have ih := Lib.hid (each1_calls C b6 b3 b7 b5 d hd2 k)
    have hcf := C.enter
    have hce := fun (args : Array Value) (w : World) => call_enter (P := Tryz.prog) (f := 59) Tryz.func59 (by kernel_rfl) rfl args w
    show Calls Tryz.prog 59 #[.int .i64 f, .pointer (some ⟨b6, 0, none⟩), .pointer (some ⟨b3, 0, none⟩), .pointer (some ⟨b7, 0, none⟩), .pointer (some ⟨b5, 0, none⟩)] w _
    rw [eachF] at hr
    have hlk := lookup_run keyInt Tryz.underlying92 zeroInt hm f true
    simp only [if_true, mval] at hlk
    have x6 : w.cell? ⟨b6, 0, none⟩ = some (.map (some d)) := blk_cell hB.c6 0
    have x3 : w.cell? ⟨b3, 0, none⟩ = some (.pointer (some ⟨p, 0, none⟩)) := blk_cell hB.c3 0
    cases hget : mget m f with
    | some x =>
      rw [hget] at hr
      simp only [Option.isSome_some, if_true, Option.some.injEq, Prod.mk.injEq] at hr
      obtain ⟨rfl, rfl⟩ := hr
      simp only [hget, Option.map_some, Option.getD_some, Option.isSome_some] at hlk
      have hfin := Lib.hid (show EPost Rep own w d m s (.returned (.tuple #[])) w from ⟨rfl, own, hR, hm, hd, Frm.refl _ _, fun _ h => .inl h, fun _ _ h => h⟩)
      clear hR hm hd hB hob hf hN hget ih
      go_enter Tryz.func59, Tryz.ntmps59
      go_wp2
      exact bodyPost_ret (v := .tuple #[]) (by simp [results, Tryz.results59, go_sem]) rfl hfin.out
    | none =>
      rw [hget] at hr
      simp only [Option.isSome_none, Bool.false_eq_true, if_false] at hr
      simp only [hget, Option.map_none, Option.getD_none, Option.isSome_none] at hlk
      obtain ⟨⟨mE, sE⟩, hL, hT⟩ := Option.bind_eq_some_iff.1 hr
      simp only [Option.map_eq_some_iff, Prod.mk.injEq] at hT
      obtain ⟨sF, hT, rfl, rfl⟩ := hT
      obtain ⟨n, hn⟩ := Option.isSome_iff_exists.1 hf
      have hkf : kidsF N f = n.kids := by unfold kidsF; rw [hn]
      rw [hkf] at hL
      obtain ⟨hb6, hb3, hb7, hb5⟩ := hob
      have hdx : d ≠ b6 ∧ d ≠ b3 ∧ d ≠ b7 ∧ d ≠ b5 := by
        obtain ⟨es, c, hm0, _⟩ := hm
        refine ⟨fun e => ?_, fun e => ?_, fun e => ?_, fun e => ?_⟩
        · subst e; rw [hB.c6] at hm0; cases hm0
        · subst e; rw [hB.c3] at hm0; cases hm0
        · subst e; rw [hB.c7] at hm0; cases hm0
        · subst e; rw [hB.c5] at hm0; cases hm0
      have hdi : ∀ cs, w.heap[d]? ≠ some (.cells cs 3 (0, 0)) := fun cs e => by
        obtain ⟨es, c, hm0, _⟩ := hm
        rw [e] at hm0; cases hm0
      have HR := Lib.hid hR
      have HB := Lib.hid hB
      have HDI := Lib.hid hdi
      have HL := Lib.hid hL
      have HT := Lib.hid hT
      have Hn := Lib.hid hn
      have HN := Lib.hid hN
      have Hd := Lib.hid hd
      clear hR hB hf hN hget hr hL hT hn hkf hd hdi
      go_enter Tryz.func59, Tryz.ntmps59
      go_wp2_with (first | (at_mapUpdate; refine wpList_update rfl _ _ _ 92 rfl keyInt Tryz.underlying92 f f rfl rfl rfl hm ?_; intro w1 hm1 hg1
                            have hF1 : Frm (fun b => b = d) w w1 := (Frm.of_grown hg1).mono fun x _ e => (by cases e; rfl)
                            have HR1 := Lib.hid (C.frm HR.out hF1 (fun b hb e => Hd.out (e ▸ hb)) fun b hb e => (by omega))
                            have HB1 := Lib.hid (HB.out.frm hF1 ⟨fun e => hdx.1 e.symm, fun e => hdx.2.1 e.symm, fun e => hdx.2.2.1 e.symm, fun e => hdx.2.2.2 e.symm⟩)
                            have HK1 := Lib.hid (show IntKept w w1 from fun b cs hb => blk_frm hb hF1 fun e => HDI.out cs (e ▸ hb))
                            have HF1 := Lib.hid hF1
                            have HM1 := Lib.hid hm1
                            clear hm1 hg1 hF1
                            have y3 : w1.cell? ⟨b3, 0, none⟩ = some (.pointer (some ⟨p, 0, none⟩)) := blk_cell HB1.out.c3 0
                            obtain ⟨own1, s1, hP, hPo, hPN⟩ := C.pool HR1.out
                            obtain ⟨l0, l1⟩ := nth_lt (hPN f n Hn.out)
                            obtain ⟨gn, cn, kv, p0, _, hkv, hko, _, _, _, _, _, e5⟩ := hP.node (hPN f n Hn.out)
                            obtain ⟨KA, KC, rfl, _⟩ := sees_slice hkv.sees
                            have HKV := Lib.hid hkv
                            have hlenK : n.kids.length ≤ 9223372036854775807 := hkv.sees.len
                            clear hP hPo hPN hkv hko) | fail)
      go_loopw [29] (fun v29 w' => ∃ (j : Nat) (ownj : Nat → Prop) (sj : σ) (mj : List (Int × Int)), j ≤ n.kids.length ∧ v29 = .int .i64 j ∧ Hid (eachF.eachL (eachF (kidsF N) take k) (mj, sj) (n.kids.drop j) = some (mE, sE)) ∧ Hid (Rep w' ownj sj) ∧ Hid (IMap w' d mj) ∧ Hid (¬ ownj d) ∧
        Hid (Frm (fun b => own b ∨ b = d) w w') ∧ Hid (∀ b, ownj b → own b ∨ w.heap.size ≤ b) ∧ Hid (IntKept w1 w')) (fun v29 _ => n.kids.length - (intOf v29).toNat)
      case atStart => exact ⟨0, own, s, mput m f f, Nat.zero_le _, rfl, HL, HR1, HM1, Hd, Lib.hid (HF1.out.mono fun _ _ h => .inr h), Lib.hid fun _ h => .inl h, Lib.hid fun _ _ h => h⟩
      case round =>
        obtain ⟨j, ownj, sj, mj, hj, rfl, HLj, HRj, HMj, HDj, HFj, HOj, HKj⟩ := hrel
        have HBj := Lib.hid (HB.out.frm HFj.out ⟨fun e => by rcases e with e | e; exact hb6 e; exact hdx.1 e.symm, fun e => by rcases e with e | e; exact hb3 e; exact hdx.2.1 e.symm, fun e => by rcases e with e | e; exact hb7 e; exact hdx.2.2.1 e.symm, fun e => by rcases e with e | e; exact hb5 e; exact hdx.2.2.2 e.symm⟩)
        have hnj : ∀ b, ¬ own b → b < w.heap.size → ¬ ownj b := fun b h1 h2 h3 => by rcases HOj.out b h3 with h | h; exact h1 h; omega
        have hl6 := lt_of_block HB.out.c6
        have hl3 := lt_of_block HB.out.c3
        have hl7 := lt_of_block HB.out.c7
        have hl5 := lt_of_block HB.out.c5
        by_cases hlt : j < n.kids.length
        · obtain ⟨x, hx⟩ : ∃ x, n.kids[j]? = some x := ⟨_, List.getElem?_eq_getElem hlt⟩
          have hdr : n.kids.drop j = x :: n.kids.drop (j + 1) := by rw [List.drop_eq_getElem_cons hlt]; congr 1; rw [List.getElem?_eq_getElem hlt] at hx; exact Option.some.inj hx
          have hL' := HLj.out
          rw [hdr, eachF.eachL] at hL'
          obtain ⟨⟨mn, sn⟩, hone, hL2⟩ := Option.bind_eq_some_iff.1 hL'
          have HL2 := Lib.hid hL2
          have HC := Lib.hid (ih.out wr ownj sj mj x sn mn HRj.out HMj.out HDj.out HBj.out ⟨hnj _ hb6 hl6, hnj _ hb3 hl3, hnj _ hb7 hl7, hnj _ hb5 hl5⟩ (HN.out f n Hn.out x (List.mem_of_getElem? hx)) HN.out hone)
          obtain ⟨A', c', e', hcell⟩ := sees_slice (Row.kept HKV.out HKj.out).sees
          cases e'
          obtain ⟨gk, ok, rfl, hck⟩ := hcell j x hx
          have z7 : wr.cell? ⟨b7, 0, none⟩ = some (.func (.func 59) #[] #[.pointer (some ⟨b6, 0, none⟩), .pointer (some ⟨b3, 0, none⟩), .pointer (some ⟨b7, 0, none⟩), .pointer (some ⟨b5, 0, none⟩)]) := blk_cell HBj.out.c7 0
          have hltI : (j : Int) < (n.kids.length : Int) := by omega
          have Hlt := Lib.hid (show j + 1 ≤ n.kids.length from hlt)
          clear hx hdr hL' hone hL2 hcell
          go_wp2_with fail
          refine HC.out.mono ?_
          rintro e w4 ⟨rfl, own4, hR4, hm4, hd4, hF4, hO4, hK4⟩
          have HR4 := Lib.hid hR4
          have HM4 := Lib.hid hm4
          have HD4 := Lib.hid hd4
          have HF4 := Lib.hid (show Frm (fun b => own b ∨ b = d) w w4 from HFj.out.trans hF4 fun b hb hs => by
            rcases hs with hs | hs
            · rcases HOj.out b hs with h | h
              · exact .inl h
              · omega
            · exact .inr hs)
          have HO4 := Lib.hid (show ∀ b, own4 b → own b ∨ w.heap.size ≤ b from fun b hb => by
            rcases hO4 b hb with h | h
            · exact HOj.out b h
            · exact .inr (Nat.le_trans HFj.out.size h))
          have HK4 := Lib.hid (show IntKept w1 w4 from fun b cs hb => hK4 b cs (HKj.out b cs hb))
          clear hR4 hm4 hd4 hF4 hO4 hK4
          go_wp2
          go_roundw
          case rel => exact ⟨j + 1, own4, sn, mn, Hlt.out, by go_num, HL2, HR4, HM4, HD4, HF4, HO4, HK4⟩
          case measure => have := Hlt.out; simp [intOf]; omega
        · have hje : j = n.kids.length := by omega
          subst hje
          have hL' := HLj.out
          rw [List.drop_length, eachF.eachL] at hL'
          simp only [Option.some.injEq, Prod.mk.injEq] at hL'
          obtain ⟨rfl, rfl⟩ := hL'
          have HC := Lib.hid (C.call wr ownj sj sF f HRj.out HT.out)
          have z5 : wr.cell? ⟨b5, 0, none⟩ = some (.func (.func fid) #[] cap) := blk_cell HBj.out.c5 0
          have hltI : ¬ (n.kids.length : Int) < (n.kids.length : Int) := by omega
          clear hlt hj
          go_wp2_with fail
          refine HC.out.mono ?_
          rintro e w4 ⟨rfl, own4, hR4, hM4⟩
          have hdn : ¬ own4 d := fun h => by
            rcases hM4.2.1 d h with h | h
            · exact HDj.out h
            · have := HMj.out.lt; omega
          have hfin := Lib.hid (show EPost Rep own w d mj sF (.returned (.tuple #[])) w4 from ⟨rfl, own4, hR4, HMj.out.frm hM4.1 HDj.out, hdn, HFj.out.trans hM4.1 fun b hb hs => by
            rcases HOj.out b hs with h | h
            · exact .inl h
            · omega, fun b hb => by
            rcases hM4.2.1 b hb with h | h
            · exact HOj.out b h
            · exact .inr (Nat.le_trans HFj.out.size h), fun b cs hb => hM4.2.2 b cs (HKj.out b cs (HK1.out b cs hb))⟩)
          clear hR4 hM4 hdn
          go_wp2
          go_end0
          exact hfin.out
end TmW
end Go.Proofs.YtbbajekecppioaaGreatDoor
/- The pool's each walked whole. -/
namespace Go.Proofs.YtbbajekecppioaaGreatDoor
open Go.RowKit Go.Mem Go.Wd Go.Tp
namespace TmW
theorem sees_at {α : Type} {w : World} {enc : α → Value} {g o n c : Nat} {xs : List α} (h : Sees w enc (.slice (some ⟨g, o, none⟩) n c) xs) : ∀ k x, xs[k]? = some x → w.cell? ⟨g, o + k, none⟩ = some (enc x) := by
 rcases h with ⟨h, _⟩ | ⟨g', o', cap, e, _, _, hc⟩
 ·cases h
 ·cases e; exact hc
set_option maxRecDepth 100000 in
set_option maxHeartbeats 4000000 in
theorem each_calls {σ : Type} {Rep : World → (Nat → Prop) → σ → Prop} {p : Nat} {N : List TNode} {fid : FuncId} {cap : Array Value} {take : σ → Int → Option σ} (C : Taker Rep p N fid cap take) (k : Nat) (w : World) (own : Nat → Prop) (s : σ) (hR : Rep w own s) (lv : Value) (l : List Int) (hl : Sees w (Value.int .i64) lv l) (hgl : ∀ g, InBlk lv g → ¬ own g)
  (hin : ∀ f ∈ l, (nth N f).isSome) (hN : ∀ f n, nth N f = some n → ∀ g ∈ n.kids, (nth N g).isSome) (m' : List (Int × Int)) (s' : σ) (hr : eachF.eachL (eachF (kidsF N) take k) ([], s) l = some (m', s')) :
  Calls Tryz.prog 29 #[.pointer (some ⟨p, 0, none⟩), lv, .func (.func fid) #[] cap] w fun e w' => e = .returned (.tuple #[]) ∧ ∃ own', Rep w' own' s' ∧ PMoves own w own' w' := by
 have hmm := @run_makeMap Tryz.prog
 have hmf : ∀ (fn : Fn) (first cap : Array Value) (w : World), (Instr.makeFunc fn first cap).run Tryz.prog w = .ok (.func fn first cap) w := fun _ _ _ _ => rfl
 have hce := fun (args : Array Value) (w : World) => call_enter (P := Tryz.prog) (f := 59) Tryz.func59 (by kernel_rfl) rfl args w
 have hlen : l.length ≤ 9223372036854775807 := hl.len
 have HR := Lib.hid hR
 have HX := Lib.hid hl
 have Hgl := Lib.hid hgl
 have Hin := Lib.hid hin
 have HN := Lib.hid hN
 have HL := Lib.hid hr
 obtain ⟨A, c, rfl, _⟩ := sees_slice hl
 clear hR hl hgl hin hN hr
 go_enter Tryz.func29, Tryz.ntmps29
 go_wp2
 obtain ⟨w1, hw1⟩ : ∃ w1, w1 = (((((w.alloc (.cells #[.pointer (some ⟨p, 0, none⟩)] 32)).alloc (.cells #[.func (.func fid) #[] cap] 80)).alloc (.map #[] 0)).alloc (.cells #[.map (some (w.heap.size + 1 + 1))] 92)).alloc (.cells #[.func (.func 59) #[] #[.pointer (some ⟨w.heap.size + 1 + 1 + 1, 0, none⟩), .pointer (some ⟨w.heap.size, 0, none⟩), .pointer (some ⟨w.heap.size + 1 + 1 + 1 + 1, 0, none⟩), .pointer (some ⟨w.heap.size + 1, 0, none⟩)]] 80)) := ⟨_, rfl⟩
 rw [← hw1]
 have hsz : w1.heap.size = w.heap.size + 5 := by rw [hw1]; simp
 have HB := Lib.hid (show EachBox w1 (w.heap.size + 1 + 1 + 1) w.heap.size (w.heap.size + 1 + 1 + 1 + 1) (w.heap.size + 1) (w.heap.size + 1 + 1) p fid cap by
  rw [hw1]
  exact ⟨blk_alloc (blk_new_at _ (by simp)) _, blk_alloc (blk_alloc (blk_alloc (blk_alloc (blk_new_at _ rfl) _) _) _) _, blk_new_at _ (by simp), blk_alloc (blk_alloc (blk_alloc (blk_new_at _ (by simp)) _) _) _⟩)
 have HM := Lib.hid (show IMap w1 (w.heap.size + 1 + 1) [] by
  rw [hw1]
  exact ⟨#[], 0, blk_alloc (blk_alloc (blk_new_at _ (by simp)) _) _, rfl, by simp, by simp⟩)
 have HF1 := Lib.hid (show Frm (fun _ => False) w w1 by rw [hw1]; exact ((((frm_alloc _ _).alloc _).alloc _).alloc _).alloc _)
 have HR1 := Lib.hid (C.frm HR.out HF1.out (fun _ _ => id) fun _ _ => id)
 have HLT := Lib.hid (C.lt HR.out)
 clear hw1 hmm hmf
 generalize hd : w.heap.size + 1 + 1 = d at *
 generalize hb6 : d + 1 = b6 at *
 generalize hb7 : b6 + 1 = b7 at *
 generalize hb5 : w.heap.size + 1 = b5 at *
 have HD1 := Lib.hid (show d < w1.heap.size from HM.out.lt)
 have Hds := Lib.hid (show w.heap.size < d by omega)
 have HD2 := Lib.hid (show 2 ≤ d by omega)
 have Hb := Lib.hid (show w.heap.size ≤ b5 ∧ w.heap.size ≤ b6 ∧ w.heap.size ≤ b7 ∧ d ≠ b5 ∧ d ≠ b6 ∧ d ≠ b7 ∧ d ≠ w.heap.size by omega)
 clear hd hb6 hb7 hb5 hsz
 go_loopw [14] (fun v14 w' => ∃ (j : Nat) (ownj : Nat → Prop) (sj : σ) (mj : List (Int × Int)), j ≤ l.length ∧ v14 = .int .i64 j ∧ Hid (eachF.eachL (eachF (kidsF N) take k) (mj, sj) (l.drop j) = some (m', s')) ∧ Hid (Rep w' ownj sj) ∧ Hid (IMap w' d mj) ∧ Hid (¬ ownj d) ∧
  Hid (Frm (fun b => own b ∨ b = d) w1 w') ∧ Hid (∀ b, ownj b → own b ∨ w1.heap.size ≤ b) ∧ Hid (IntKept w1 w')) (fun v14 _ => l.length - (intOf v14).toNat)
 case atStart => exact ⟨0, own, s, [], Nat.zero_le _, rfl, HL, HR1, HM, Lib.hid fun h => by have := HLT.out _ h; have := Hds.out; omega, Lib.hid (Frm.refl _ _), Lib.hid fun _ h => .inl h, Lib.hid fun _ _ h => h⟩
 case round =>
  obtain ⟨j, ownj, sj, mj, hj, rfl, HLj, HRj, HMj, HDj, HFj, HOj, HKj⟩ := hrel
  have hbb := Hb.out
  have hno : ∀ b, w.heap.size ≤ b → ¬ own b := fun b h1 h2 => by have := HLT.out b h2; omega
  have HBj := Lib.hid (HB.out.frm HFj.out ⟨fun e => by rcases e with e | e; exact hno _ (by omega) e; omega, fun e => by rcases e with e | e; exact hno _ (by omega) e; omega, fun e => by rcases e with e | e; exact hno _ (by omega) e; omega, fun e => by rcases e with e | e; exact hno _ (by omega) e; omega⟩)
  have hl6 := lt_of_block HB.out.c6
  have hl3 := lt_of_block HB.out.c3
  have hl7 := lt_of_block HB.out.c7
  have hl5 := lt_of_block HB.out.c5
  have hnj : ∀ b, w.heap.size ≤ b → b < w1.heap.size → ¬ ownj b := fun b h1 h2 h3 => by rcases HOj.out b h3 with h | h; exact hno b h1 h; omega
  have HN6 := Lib.hid (show ¬ ownj b6 ∧ ¬ ownj w.heap.size ∧ ¬ ownj b7 ∧ ¬ ownj b5 from ⟨hnj _ (by omega) hl6, hnj _ (by omega) hl3, hnj _ (by omega) hl7, hnj _ (by omega) hl5⟩)
  have HO := Lib.hid hno
  clear hno hnj hbb hl6 hl3 hl7 hl5
  by_cases hlt : j < l.length
  ·obtain ⟨x, hx⟩ : ∃ x, l[j]? = some x := ⟨_, List.getElem?_eq_getElem hlt⟩
   have hdr : l.drop j = x :: l.drop (j + 1) := by rw [List.drop_eq_getElem_cons hlt]; congr 1; rw [List.getElem?_eq_getElem hlt] at hx; exact Option.some.inj hx
   have hL' := HLj.out
   rw [hdr, eachF.eachL] at hL'
   obtain ⟨⟨mn, sn⟩, hone, hL2⟩ := Option.bind_eq_some_iff.1 hL'
   have HL2 := Lib.hid hL2
   have Hone := Lib.hid hone
   have hxN := Hin.out x (List.mem_of_getElem? hx)
   obtain ⟨nx, hnx⟩ := Option.isSome_iff_exists.1 hxN
   obtain ⟨own1, s1, hP, hPo, hPN⟩ := C.pool HRj.out
   have HH := Lib.hid (has1 hP x wr.heap.size rfl)
   rw [nth_in (hPN x nx hnx)] at HH
   obtain ⟨A', c', e', hcell⟩ := sees_slice ((HX.out.frm HF1.out fun _ _ _ => id).frm HFj.out fun g hg hlg hs => (by
    rcases hs with hs | hs
    ·exact Hgl.out g hg hs
    ·subst hs
     obtain ⟨es, c0, hm0, _⟩ := HM.out
     obtain ⟨o, n', c', e'⟩ := hg
     have hcl := (HX.out.frm HF1.out fun _ _ _ => id)
     rw [e'] at hcl
     have hc1 := sees_at hcl j x hx
     unfold World.cell? at hc1
     simp only [hm0] at hc1
     cases hc1))
   cases e'
   obtain ⟨gk, ok, rfl, hck⟩ := hcell j x hx
   have z3 : wr.cell? ⟨w.heap.size, 0, none⟩ = some (.pointer (some ⟨p, 0, none⟩)) := blk_cell HBj.out.c3 0
   have hltI : (j : Int) < (l.length : Int) := by omega
   have Hlt := Lib.hid (show j + 1 ≤ l.length from hlt)
   have HxN := Lib.hid hxN
   clear hx hdr hL' hone hL2 hcell hxN hnx hP hPo hPN hlt
   go_wp2_with fail
   refine HH.out.mono ?_
   rintro e w4 ⟨rfl, hf4⟩
   have HF4 := Lib.hid hf4
   have HB4 := Lib.hid (HBj.out.frm hf4 ⟨id, id, id, id⟩)
   have z7 : w4.cell? ⟨b7, 0, none⟩ = some (.func (.func 59) #[] #[.pointer (some ⟨b6, 0, none⟩), .pointer (some ⟨w.heap.size, 0, none⟩), .pointer (some ⟨b7, 0, none⟩), .pointer (some ⟨b5, 0, none⟩)]) := blk_cell HB4.out.c7 0
   have HC := Lib.hid (each1_calls C b6 w.heap.size b7 b5 d HD2.out k w4 ownj sj mj x sn mn (C.frm HRj.out hf4 (fun _ _ => id) fun _ _ => id) (HMj.out.frm hf4 id) HDj.out HB4.out HN6.out HxN.out HN.out Hone.out)
   clear hf4
   go_wp2_with fail
   refine HC.out.mono ?_
   rintro e w5 ⟨rfl, own5, hR5, hm5, hd5, hF5, hO5, hK5⟩
   have HR5 := Lib.hid hR5
   have HM5 := Lib.hid hm5
   have HD5 := Lib.hid hd5
   have HF5 := Lib.hid (show Frm (fun b => own b ∨ b = d) w1 w5 from (HFj.out.trans HF4.out fun _ _ h => h.elim).trans hF5 fun b hb hs => by
    rcases hs with hs | hs
    ·rcases HOj.out b hs with h | h
     ·exact .inl h
     ·omega
    ·exact .inr hs)
   have HO5 := Lib.hid (show ∀ b, own5 b → own b ∨ w1.heap.size ≤ b from fun b hb => by
    rcases hO5 b hb with h | h
    ·exact HOj.out b h
    ·exact .inr (Nat.le_trans (Nat.le_trans HFj.out.size HF4.out.size) h))
   have HK5 := Lib.hid (show IntKept w1 w5 from fun b cs hb => hK5 b cs (kept_frm0 HF4.out b cs (HKj.out b cs hb)))
   clear hR5 hm5 hd5 hF5 hO5 hK5
   go_wp2
   go_roundw
   case rel => exact ⟨j + 1, own5, sn, mn, Hlt.out, by go_num, HL2, HR5, HM5, HD5, HF5, HO5, HK5⟩
   case measure => have := Hlt.out; simp [intOf]; omega
  ·have hje : j = l.length := by omega
   subst hje
   have hL' := HLj.out
   rw [List.drop_length, eachF.eachL] at hL'
   simp only [Option.some.injEq, Prod.mk.injEq] at hL'
   obtain ⟨rfl, rfl⟩ := hL'
   have hltI : ¬ (l.length : Int) < (l.length : Int) := by omega
   have hfin := Lib.hid (show PMoves own w ownj wr from ⟨(HF1.out.mono fun _ _ h => h.elim).trans HFj.out fun b hb hs => by
    rcases hs with hs | hs
    ·exact hs
    ·have := Hds.out; omega, fun b hb => by
    rcases HOj.out b hb with h | h
    ·exact .inl h
    ·exact .inr (Nat.le_trans HF1.out.size h), fun b cs hb => HKj.out b cs (kept_frm0 HF1.out b cs hb)⟩)
   clear hlt hj
   go_wp2
   go_end0
   exact ⟨rfl, ownj, HRj.out, hfin.out⟩
end TmW
end Go.Proofs.YtbbajekecppioaaGreatDoor
/- Rows of values (a variable, its type, its number), and the sort of one: the same values, in some order. -/
namespace Go.Proofs.YtbbajekecppioaaGreatDoor
open Go.RowKit Go.Mem Go.Wd Go.Tp
namespace TmW
structure VVal where
 v : Int
 t : Ty
 num : Nat
def vcell (x : VVal) : List Value := [.int .i64 x.v, .int .i64 x.t.1, .bool x.t.2, .int .u64 x.num]
def vcells (l : List VVal) : List Value := l.flatMap vcell
theorem vcells_len : ∀ l : List VVal, (vcells l).length = l.length * 4
 | [] => rfl
 | x :: l => by have := vcells_len l; simp only [vcells, List.flatMap_cons, List.length_append] at *; rw [this]; simp [vcell]; omega
theorem vcells_get : ∀ (l : List VVal) (i : Nat) (x : VVal), l[i]? = some x → ∀ j u, (vcell x)[j]? = some u → (vcells l)[i * 4 + j]? = some u
 | [], i, x, h, _, _, _ => by simp at h
 | y :: l, 0, x, h, j, u, hu => by
  simp only [List.getElem?_cons_zero, Option.some.injEq] at h
  subst h
  have hj : j < 4 := by have := (List.getElem?_eq_some_iff.1 hu).1; simpa [vcell] using this
  simp only [vcells, List.flatMap_cons]
  rw [Nat.zero_mul, Nat.zero_add, List.getElem?_append_left (by simpa [vcell] using hj)]
  exact hu
 | y :: l, i + 1, x, h, j, u, hu => by
  have ih := vcells_get l i x (by simpa using h) j u hu
  simp only [vcells, List.flatMap_cons] at *
  rw [List.getElem?_append_right (by simp [vcell]; omega)]
  rw [show (i + 1) * 4 + j - (vcell y).length = i * 4 + j by simp [vcell]; omega]
  exact ih
theorem vcells_set : ∀ (l : List VVal) (i : Nat) (x : VVal), i < l.length → vcells (l.set i x) = ((((vcells l).set (i * 4) (.int .i64 x.v)).set (i * 4 + 1) (.int .i64 x.t.1)).set (i * 4 + 2) (.bool x.t.2)).set (i * 4 + 3) (.int .u64 x.num)
 | [], i, x, h => by simp at h
 | y :: l, 0, x, _ => by simp [vcells, vcell]
 | y :: l, i + 1, x, h => by
  have ih := vcells_set l i x (by simpa using h)
  have e : ∀ k, (i + 1) * 4 + k = (i * 4 + k) + 4 := fun k => by omega
  have e0 : (i + 1) * 4 = (i * 4) + 4 := by omega
  simp only [List.set_cons_succ, vcells, List.flatMap_cons] at *
  rw [ih, e 1, e 2, e 3, e0]
  simp [vcell]
theorem own_cell_set {w : World} {base : Nat} {e : TypeId} {size g n c : Nat} {xs : List Value} (h : w.ownsRow base e size (.slice (some ⟨g, 0, none⟩) n c) n xs) (m : Nat) (hm : m < n * size) (u : Value) :
  (w.setCell ⟨g, m, none⟩ u).ownsRow base e size (.slice (some ⟨g, 0, none⟩) n c) n (xs.set m u) := by
 obtain ⟨h1, ⟨h2, _⟩ | ⟨g', cap, cur, e1, hb, hg, hn, hm', hs, ht⟩⟩ := h
 ·cases h2
 ·cases e1
  refine ⟨by simpa using h1, .inr ⟨g, c, cur.setIfInBounds m u, rfl, hb, blk_set hg m _ rfl, hn, hm', by simpa using hs, ?_⟩⟩
  rw [Array.toList_setIfInBounds, ← ht, List.take_set]
/-- A row of values that the program made. -/
def VRow (w : World) (v : Value) (l : List VVal) : Prop := w.ownsRow 0 70 4 v l.length (vcells l)
theorem VRow.shape {w : World} {v : Value} {l : List VVal} (h : VRow w v l) : (v = .slice none 0 0 ∧ l = []) ∨ ∃ g cap, v = .slice (some ⟨g, 0, none⟩) l.length cap ∧ g < w.heap.size ∧ (∀ i x, l[i]? = some x → w.cell? ⟨g, i * 4, none⟩ = some (.int .i64 x.v) ∧ w.cell? ⟨g, i * 4 + 1, none⟩ = some (.int .i64 x.t.1) ∧ w.cell? ⟨g, i * 4 + 2, none⟩ = some (.bool x.t.2) ∧ w.cell? ⟨g, i * 4 + 3, none⟩ = some (.int .u64 x.num)) ∧ ∀ i, w.frozen? ⟨g, i, none⟩ = false := by
 have hlt := World.ownsRow.lt h
 have hc := fun g => World.ownsRow.cells h (g := g)
 obtain ⟨h1, ⟨rfl, h2⟩ | ⟨g, cap, cur, rfl, hbg, hg, _⟩⟩ := h
 ·exact .inl ⟨rfl, List.eq_nil_of_length_eq_zero h2⟩
 ·refine .inr ⟨g, cap, rfl, (hlt g rfl).2, fun i x hx => ?_, fun i => blk_free hg i⟩
  have hcell : ∀ j u, (vcell x)[j]? = some u → w.cell? ⟨g, i * 4 + j, none⟩ = some u := fun j u hu => by
   have k := hc g rfl _ _ (vcells_get l i x hx j u hu)
   simp only [Addr.add] at k
   by_cases hz : i * 4 + j = 0
   ·rw [if_pos hz] at k; rw [hz]; exact k
   ·rw [if_neg hz] at k; simpa using k
  exact ⟨by simpa using hcell 0 _ rfl, hcell 1 _ rfl, hcell 2 _ rfl, hcell 3 _ rfl⟩
theorem VRow.frm {S : Nat → Prop} {w w' : World} {v : Value} {l : List VVal} (h : VRow w v l) (hf : Frm S w w') (hS : ∀ g, v.ownBlock = some g → ¬ S g) : VRow w' v l := own_frm h hf hS
theorem VRow.set {w : World} {g c n : Nat} {l : List VVal} (h : VRow w (.slice (some ⟨g, 0, none⟩) n c) l) (hn : n = l.length) (i : Nat) (hi : i < l.length) (x : VVal) :
  VRow ((((w.setCell ⟨g, i * 4, none⟩ (.int .i64 x.v)).setCell ⟨g, i * 4 + 1, none⟩ (.int .i64 x.t.1)).setCell ⟨g, i * 4 + 2, none⟩ (.bool x.t.2)).setCell ⟨g, i * 4 + 3, none⟩ (.int .u64 x.num)) (.slice (some ⟨g, 0, none⟩) n c) (l.set i x) := by
 subst hn
 unfold VRow at *
 rw [vcells_set l i x hi, List.length_set]
 exact own_cell_set (own_cell_set (own_cell_set (own_cell_set h _ (by omega) _) _ (by omega) _) _ (by omega) _) _ (by omega) _
set_option maxRecDepth 100000 in
theorem cmp_calls (w : World) (x y : VVal) :
  Calls Tryz.prog 57 #[.agg #[.int .i64 x.v, .int .i64 x.t.1, .bool x.t.2, .int .u64 x.num], .agg #[.int .i64 y.v, .int .i64 y.t.1, .bool y.t.2, .int .u64 y.num]] w fun e w' => e = .returned (.int .i64 (Lib.compareInt x.v y.v)) ∧ Frm (fun _ => False) w w' := by
 have hF := Lib.hid ((frm_alloc w (.cells #[.int .i64 x.v, .int .i64 x.t.1, .bool x.t.2, .int .u64 x.num] 70)).alloc (.cells #[.int .i64 y.v, .int .i64 y.t.1, .bool y.t.2, .int .u64 y.num] 70))
 go_enter Tryz.func57, Tryz.ntmps57
 go_wp2_with fail
 refine (Tryz.cmp_Compare_int _ _ _).mono ?_
 rintro e w1 ⟨rfl, rfl⟩
 go_wp2
 go_ret
 exact ⟨rfl, hF.out⟩
end TmW
end Go.Proofs.YtbbajekecppioaaGreatDoor
