/- Package bdd, walked on: Rename, where nothing is refused at once. -/
import Derived.Test.YtjajpdmmoiiojaaBddW13
namespace Go.Proofs.Ytjajpdmmoiiojaa
open Go.RowKit Go.Mem Go.Bdd
namespace BddW

set_option maxRecDepth 100000 in
set_option maxHeartbeats 2000000 in
theorem Rename_good {w : World} {own : Nat → Prop} {p : Nat} {s : Sto} (hS : StoreAt w own p s) (k : Nat) (f : Int) (vv : Value) (to : List Int) (hv : Sees w (Value.int .i64) vv to) (hvo : ∀ g, InBlk vv g → g < w.heap.size → ¬ own g)
    (hin : inB s f = true) (hl : (to.length : Int) = s.vars) (hbad : to.any (badVar s) = false) (out : MII) (hout : supportF k s f = some out) (hkeys : ∀ v ∈ out.map (·.1), (nth to v).isSome = true) (r : Int × Int) (s' : Sto)
    (hr : (clash to (out.map (·.1)) = true ∧ (r, s') = ((0, 91), s)) ∨ (clash to (out.map (·.1)) = false ∧ ∃ m0, overF Sto.l (renameOne k to) k s [] f = some (r, s', m0))) :
    Calls Try.prog 32 #[.pointer (some ⟨p, 0, none⟩), .int .i64 f, vv] w (StPost own w p (.tuple #[.int .i64 r.1, .int .i64 r.2]) s') := by
  have hmf : ∀ (fn : Fn) (first cap : Array Value) (w : World), (Instr.makeFunc fn first cap).run Try.prog w = .ok (.func fn first cap) w := fun _ _ _ _ => rfl
  have hmm := @run_makeMap Try.prog
  have hnot : ∀ (x : Bool) (w : World), (Op.unary .not (.bool x)).run Try.prog w = .ok (.bool (!x)) w := fun _ _ => rfl
  have hlen : to.length ≤ maxLen := hv.len
  obtain ⟨A, c, rfl⟩ : ∃ A c, vv = .slice A to.length c := by
    rcases hv with ⟨e, rfl⟩ | ⟨g, o, c, e, _⟩
    · exact ⟨none, 0, e⟩
    · exact ⟨_, c, e⟩
  have hol := hS.ownlt
  have hF1 : Frm (fun _ => False) w ((w.alloc (.cells #[.pointer (some ⟨p, 0, none⟩)] 23)).alloc (.cells #[(.slice A to.length c)] 28)) := ((Frm.refl _ _).alloc _).alloc _
  have hps : ((w.alloc (.cells #[.pointer (some ⟨p, 0, none⟩)] 23)).alloc (.cells #[(.slice A to.length c)] 28)).heap[w.heap.size]? = some (.cells #[.pointer (some ⟨p, 0, none⟩)] 23) := blk_alloc (blk_new _) _
  have hpv : ((w.alloc (.cells #[.pointer (some ⟨p, 0, none⟩)] 23)).alloc (.cells #[(.slice A to.length c)] 28)).heap[w.heap.size + 1]? = some (.cells #[(.slice A to.length c)] 28 (0, 0)) := blk_new_at _ (by simp)
  have hF2 : Frm (fun _ => False) ((w.alloc (.cells #[.pointer (some ⟨p, 0, none⟩)] 23)).alloc (.cells #[(.slice A to.length c)] 28)) (((w.alloc (.cells #[.pointer (some ⟨p, 0, none⟩)] 23)).alloc (.cells #[(.slice A to.length c)] 28)).alloc (.cells #[.int .i64 f] 3)) := (Frm.refl _ _).alloc _
  have hS2 : StoreAt (((w.alloc (.cells #[.pointer (some ⟨p, 0, none⟩)] 23)).alloc (.cells #[(.slice A to.length c)] 28)).alloc (.cells #[.int .i64 f] 3)) own p s := hS.frm (hF1.trans hF2 fun _ _ => id) fun _ _ => id
  have hse2 : Sees (((w.alloc (.cells #[.pointer (some ⟨p, 0, none⟩)] 23)).alloc (.cells #[(.slice A to.length c)] 28)).alloc (.cells #[.int .i64 f] 3)) (Value.int .i64) (.slice (some ⟨w.heap.size + 1 + 1, 0, none⟩) 1 1) [f] := sees_of_blk (blk_new_at (.cells #[.int .i64 f] 3) (by simp)) rfl rfl (by decide)
  have Hh := Lib.hid (has_calls hS2 (.slice (some ⟨w.heap.size + 1 + 1, 0, none⟩) 1 1) [f] hse2)
  have hF3 : Frm (fun _ => False) (((w.alloc (.cells #[.pointer (some ⟨p, 0, none⟩)] 23)).alloc (.cells #[(.slice A to.length c)] 28)).alloc (.cells #[.int .i64 f] 3)) ((((w.alloc (.cells #[.pointer (some ⟨p, 0, none⟩)] 23)).alloc (.cells #[(.slice A to.length c)] 28)).alloc (.cells #[.int .i64 f] 3)).alloc (.cells #[.pointer (some ⟨p, 0, none⟩)] 23)) := (Frm.refl _ _).alloc _
  have hF03 : Frm (fun _ => False) w ((((w.alloc (.cells #[.pointer (some ⟨p, 0, none⟩)] 23)).alloc (.cells #[(.slice A to.length c)] 28)).alloc (.cells #[.int .i64 f] 3)).alloc (.cells #[.pointer (some ⟨p, 0, none⟩)] 23)) := (hF1.trans hF2 fun _ _ => id).trans hF3 fun _ _ => id
  have hF13 : Frm (fun _ => False) ((w.alloc (.cells #[.pointer (some ⟨p, 0, none⟩)] 23)).alloc (.cells #[(.slice A to.length c)] 28)) ((((w.alloc (.cells #[.pointer (some ⟨p, 0, none⟩)] 23)).alloc (.cells #[(.slice A to.length c)] 28)).alloc (.cells #[.int .i64 f] 3)).alloc (.cells #[.pointer (some ⟨p, 0, none⟩)] 23)) := hF2.trans hF3 fun _ _ => id
  have hS3 : StoreAt ((((w.alloc (.cells #[.pointer (some ⟨p, 0, none⟩)] 23)).alloc (.cells #[(.slice A to.length c)] 28)).alloc (.cells #[.int .i64 f] 3)).alloc (.cells #[.pointer (some ⟨p, 0, none⟩)] 23)) own p s := hS.frm hF03 fun _ _ => id
  have hps3 := blk_frm hps hF13 id
  have hpv3 := blk_frm hpv hF13 id
  have hv3 := hv.frm hF03 fun _ _ _ => id
  have hall : [f].all (inB s) = true := by simp [hin]
  rw [hall] at Hh
  have q0 : ((((w.alloc (.cells #[.pointer (some ⟨p, 0, none⟩)] 23)).alloc (.cells #[(.slice A to.length c)] 28)).alloc (.cells #[.int .i64 f] 3)).alloc (.cells #[.pointer (some ⟨p, 0, none⟩)] 23)).cell? ⟨w.heap.size, 0, none⟩ = some (.pointer (some ⟨p, 0, none⟩)) := blk_cell hps3 0
  have q1 : ((((w.alloc (.cells #[.pointer (some ⟨p, 0, none⟩)] 23)).alloc (.cells #[(.slice A to.length c)] 28)).alloc (.cells #[.int .i64 f] 3)).alloc (.cells #[.pointer (some ⟨p, 0, none⟩)] 23)).cell? ⟨w.heap.size + 1, 0, none⟩ = some (.slice A to.length c) := blk_cell hpv3 0
  have q2 := hS3.vars_cell
  have hbl : ((to.length : Int) != s.vars) = false := by simp [hl]
  have Hc := Lib.hid (Sl.containsFunc_calls 51 #[.pointer (some ⟨w.heap.size, 0, none⟩)] (badVar s) (.slice A to.length c) to ((((w.alloc (.cells #[.pointer (some ⟨p, 0, none⟩)] 23)).alloc (.cells #[(.slice A to.length c)] 28)).alloc (.cells #[.int .i64 f] 3)).alloc (.cells #[.pointer (some ⟨p, 0, none⟩)] 23)).drew (hv3.frm ((Frm.refl _ _).drew) fun _ _ _ => id)
    (fun x w' => call_enter (P := Try.prog) (f := 51) Try.func51 (by kernel_rfl) rfl _ w') (fun x => rename1_calls (hS3.frm (Frm.refl (fun _ => False) _).drew fun _ _ => id) hps3 x))
  rw [hbad] at Hc
  have hF34 : Frm (fun _ => False) ((((w.alloc (.cells #[.pointer (some ⟨p, 0, none⟩)] 23)).alloc (.cells #[(.slice A to.length c)] 28)).alloc (.cells #[.int .i64 f] 3)).alloc (.cells #[.pointer (some ⟨p, 0, none⟩)] 23)) (((((w.alloc (.cells #[.pointer (some ⟨p, 0, none⟩)] 23)).alloc (.cells #[(.slice A to.length c)] 28)).alloc (.cells #[.int .i64 f] 3)).alloc (.cells #[.pointer (some ⟨p, 0, none⟩)] 23)).drew.alloc (.map #[] 0)) := ((Frm.refl _ _).drew).alloc _
  have hF04 : Frm (fun _ => False) w (((((w.alloc (.cells #[.pointer (some ⟨p, 0, none⟩)] 23)).alloc (.cells #[(.slice A to.length c)] 28)).alloc (.cells #[.int .i64 f] 3)).alloc (.cells #[.pointer (some ⟨p, 0, none⟩)] 23)).drew.alloc (.map #[] 0)) := hF03.trans hF34 fun _ _ => id
  have hz4 : (((((w.alloc (.cells #[.pointer (some ⟨p, 0, none⟩)] 23)).alloc (.cells #[(.slice A to.length c)] 28)).alloc (.cells #[.int .i64 f] 3)).alloc (.cells #[.pointer (some ⟨p, 0, none⟩)] 23)).drew.alloc (.map #[] 0)).heap.size = w.heap.size + 5 := by simp [World.drew]
  have hS4 : StoreAt (((((w.alloc (.cells #[.pointer (some ⟨p, 0, none⟩)] 23)).alloc (.cells #[(.slice A to.length c)] 28)).alloc (.cells #[.int .i64 f] 3)).alloc (.cells #[.pointer (some ⟨p, 0, none⟩)] 23)).drew.alloc (.map #[] 0)) own p s := hS3.frm hF34 fun _ _ => id
  have hps4 := blk_frm hps3 hF34 id
  have hpv4 := blk_frm hpv3 hF34 id
  have hv4 := hv3.frm hF34 fun _ _ _ => id
  have hm4 : IMap (((((w.alloc (.cells #[.pointer (some ⟨p, 0, none⟩)] 23)).alloc (.cells #[(.slice A to.length c)] 28)).alloc (.cells #[.int .i64 f] 3)).alloc (.cells #[.pointer (some ⟨p, 0, none⟩)] 23)).drew.alloc (.map #[] 0)) (w.heap.size + 1 + 1 + 1 + 1) [] := by have := mapAt_new ((((w.alloc (.cells #[.pointer (some ⟨p, 0, none⟩)] 23)).alloc (.cells #[(.slice A to.length c)] 28)).alloc (.cells #[.int .i64 f] 3)).alloc (.cells #[.pointer (some ⟨p, 0, none⟩)] 23)).drew (Value.int .i64) (Value.int .i64); simpa [World.drew] using this
  have Hs := Lib.hid (support_calls hS4 k f out hout)
  have HS := Lib.hid hS4
  have HPS := Lib.hid hps4
  have HPV := Lib.hid hpv4
  have HV := Lib.hid hv4
  have HM := Lib.hid hm4
  have HF := Lib.hid hF04
  have HR := Lib.hid hr
  have HK := Lib.hid hkeys
  have HO := Lib.hid hol
  have HVO := Lib.hid hvo
  have hvi : ∀ g, InBlk (.slice A to.length c) g → to ≠ [] → g < w.heap.size := fun g hg hx => hv.inlt hg hx
  have Hvi := Lib.hid hvi
  clear hS hF1 hps hpv hF2 hS2 hse2 hF3 hF03 hF13 hS3 hps3 hpv3 hv3 hall hin hv hbad hl hF34 hF04 hS4 hps4 hpv4 hv4 hm4 hr hkeys hol hvo hout hvi
  go_enter Try.func32, Try.ntmps32
  go_wp2_with fail
  refine Hh.out.mono ?_
  rintro e w' ⟨rfl, rfl⟩
  go_wp2
  refine Plan.wp_region_plan [0, 1, 0, 4, 12, 28, 63, 127, 255, 255, 1023, 2047] (List.cons (Plan.Seg.mk (List.cons 0 (List.cons 1 (List.cons 2 (List.cons 3 (List.cons 4 (List.cons 5 (List.cons 6 (List.cons 7 (List.cons 8 (List.cons 9 List.nil)))))))))) 10 List.nil) List.nil) (List.cons 11 List.nil) (by kernel_rfl) (by kernel_rfl) ?_
  simp only [Plan.wayOf, Plan.pickAll, List.getElem?_cons_zero, List.getElem?_cons_succ, List.getD_eq_getElem?_getD, Option.getD_some]
  refine Plan.wpWay_seg ?_
  repeat go_big_quiet_step (fail)
  refine wpQuiet_nil ?_
  refine Plan.wpWay_act ?_
  go_wp2_with fail
  refine Hc.out.mono ?_
  rintro e w' ⟨rfl, rfl⟩
  go_wp2_with fail
  refine And.intro Plan.again_nil ?_
  refine Plan.wpWay_last ?_
  repeat go_big_quiet_step (fail)
  refine wpQuiet_nil ?_
  refine NoPanic.normal ?_
  go_wp2_with fail
  refine Hs.out.mono ?_
  rintro e w5 ⟨bo, rfl, hm5, hbo, hF5⟩
  have HF5 := Lib.hid hF5
  have Hm5 := Lib.hid hm5
  clear hF5 hm5
  go_wp2_with (first | (at_range; refine wpList_range_made rfl _ 94 rfl Try.underlying94 rfl Hm5.out ?_; intro ob hrg) | go_in)
  go_frame
  go_loopg [9] out.length (fun kq v9 w7 => ∃ left done taken, Hid (Ranging w7 bo w5.heap.size (Value.int .i64) (Value.int .i64) left) ∧ Hid (IMap w7 (w.heap.size + 1 + 1 + 1 + 1) taken) ∧ Hid (Frm (fun b => b = (w.heap.size + 1 + 1 + 1 + 1)) w5 w7) ∧ Hid (RenInv to (out.map (·.1)) done left taken) ∧ Hid (left.length = kq))
  case atStart => exact ⟨out.map (·.1), [], [], Lib.hid hrg, Lib.hid (HM.out.frm (HF5.out.alloc ob) id), Lib.hid ((Frm.refl _ _).alloc _), Lib.hid (renInv_start _ _), Lib.hid (by simp)⟩
  case round =>
    obtain ⟨left, done, taken, HR7, HM7, HF7, HI, HL⟩ := hrel
    clear hrg
    go_wp2_with (first | (at_next; refine wpList_next_made rfl _ rfl rfl HR7.out ?_ ?_) | go_in)
    · intro hl0
      subst hl0
      have hcl := renInv_end HI.out
      obtain ⟨m0, ho⟩ : ∃ m0, overF Sto.l (renameOne k to) k s [] f = some (r, s', m0) := by
        rcases HR.out with ⟨h, _⟩ | ⟨_, h⟩
        · rw [hcl] at h; cases h
        · exact h
      have hF58 : Frm (fun b => b = (w.heap.size + 1 + 1 + 1 + 1)) w5 (wr.alloc (.map #[] 0)) := HF7.out.alloc _
      have hF48 : Frm (fun b => b = (w.heap.size + 1 + 1 + 1 + 1)) (((((w.alloc (.cells #[.pointer (some ⟨p, 0, none⟩)] 23)).alloc (.cells #[(.slice A to.length c)] 28)).alloc (.cells #[.int .i64 f] 3)).alloc (.cells #[.pointer (some ⟨p, 0, none⟩)] 23)).drew.alloc (.map #[] 0)) (wr.alloc (.map #[] 0)) := (HF5.out.mono fun _ _ h => h.elim).trans hF58 fun _ _ h => h
      have hz5 := HF5.out.size
      have hz7 := HF7.out.size
      have hS8 : StoreAt (wr.alloc (.map #[] 0)) own p s := HS.out.frm hF48 fun b hb e => by have := HO.out b hb; omega
      have hps8 := blk_frm HPS.out hF48 (by omega)
      have hpv8 := blk_frm HPV.out hF48 (by omega)
      have hv8 := HV.out.heap (w' := wr.alloc (.map #[] 0)) fun g hg hx hlt => hF48.block g hlt (by have := Hvi.out g hg hx; omega)
      have hm8 : IMap (wr.alloc (.map #[] 0)) wr.heap.size [] := mapAt_new wr (Value.int .i64) (Value.int .i64)
      have hnd : ¬ own wr.heap.size := fun h => by have := HO.out _ h; omega
      have hC := closure_pin (W0 := wr.alloc (.map #[] 0)) (own0 := own) (d := wr.heap.size) (p := p) (fid := 53) (cap := #[.pointer (some ⟨w.heap.size, 0, none⟩), .pointer (some ⟨w.heap.size + 1, 0, none⟩)]) (one := renameOne k to)
        (fun w' own' s v no yes r s' hR hr => rename2_calls hps8 hpv8 hv8 ⟨by omega, by omega, fun g hg hx _ e => by have := Hvi.out g hg hx; omega⟩ ⟨fun h => by have := HO.out _ h; omega, fun h => by have := HO.out _ h; omega, fun g hg hx _ => HVO.out g hg (Hvi.out g hg hx)⟩ k w' own' s v no yes r s' hR hr)
        (fun args w => call_enter Try.func53 (by kernel_rfl) rfl args w)
      have Ho := Lib.hid (over_calls hC k (wr.alloc (.map #[] 0)) own s [] f _ _ _ ⟨hS8, fun b hb _ ho => ⟨rfl, ho⟩⟩ hm8 hnd ho)
      have hF08 : Frm own w (wr.alloc (.map #[] 0)) := HF.out.trans hF48 (fun x hx e => by omega) |>.mono fun _ _ h => h.elim
      have HF08 := Lib.hid hF08
      have HZ := Lib.hid (show w.heap.size ≤ wr.heap.size by omega)
      have q3 : wr.cell? ⟨w.heap.size, 0, none⟩ = some (.pointer (some ⟨p, 0, none⟩)) := blk_cell (blk_frm HPS.out ((HF5.out.mono fun _ _ h => h.elim).trans HF7.out fun _ _ h => h) (by omega)) 0
      clear hcl ho hF58 hF48 hz5 hz7 hS8 hps8 hpv8 hv8 hm8 hnd hC hF08
      go_wp2_with fail
      refine Ho.out.mono ?_
      rintro e w' ⟨rfl, own', hR', hm', hd', hF', ho'⟩
      go_wp2
      go_ret2
      exact ⟨rfl, own', hR'.1, .of_frm (HF08.out.trans hF' fun x hx h => by have := HZ.out; rcases h with h | h; exact h; omega) fun b hb => by have := HZ.out; have := HF08.out.size; rcases ho' b hb with h | h; exact .inl h; exact .inr (by omega)⟩
    · intro Aq kv B x w8 hL hrg8 hF8 hsz8 hen
      subst hL
      have HRG := Lib.hid hrg8
      clear hrg8
      cases gk with
      | zero => have := HL.out; simp at this
      | succ k1 =>
        obtain ⟨t, ht⟩ := Option.isSome_iff_exists.1 (HK.out kv (renInv_mem HI.out))
        have hz5 := HF5.out.size
        have hz7 := HF7.out.size
        have hF58 : Frm (fun b => b = (w.heap.size + 1 + 1 + 1 + 1) ∨ b = w5.heap.size) w5 w8 := (HF7.out.mono fun _ _ h => .inl h).trans hF8 fun _ _ h => .inr h
        have hF48 : Frm (fun b => b = (w.heap.size + 1 + 1 + 1 + 1) ∨ b = w5.heap.size) (((((w.alloc (.cells #[.pointer (some ⟨p, 0, none⟩)] 23)).alloc (.cells #[(.slice A to.length c)] 28)).alloc (.cells #[.int .i64 f] 3)).alloc (.cells #[.pointer (some ⟨p, 0, none⟩)] 23)).drew.alloc (.map #[] 0)) w8 := (HF5.out.mono fun _ _ h => h.elim).trans hF58 fun _ _ h => h
        have hv8 := HV.out.heap (w' := w8) fun g hg hx hlt => hF48.block g hlt (by have := Hvi.out g hg hx; omega)
        have hm8 : IMap w8 (w.heap.size + 1 + 1 + 1 + 1) taken := HM7.out.frm hF8 (by omega)
        have c0 : w8.cell? ⟨w.heap.size + 1, 0, none⟩ = some (.slice A to.length c) := blk_cell (blk_frm HPV.out hF48 (by omega)) 0
        have hlk := lookup_run keyInt Try.underlying94 zeroInt hm8 t true
        simp only [if_true] at hlk
        have hbl2 := lt_of_block (blk_frm HPV.out hF48 (by omega))
        obtain ⟨gi, oi, ci, ei, hci⟩ := nth_cell hv8 ht
        obtain ⟨li0, li1⟩ := nth_lt ht
        cases ei
        cases hget : mget taken t with
        | some x0 =>
          have hlk' : (Instr.lookup 94 (.map (some (w.heap.size + 1 + 1 + 1 + 1))) (.int .i64 t) true).run Try.prog w8 = .ok (.tuple #[.int .i64 x0, .bool true]) w8 := by rw [hlk]; simp [mval, hget]
          have hcl := renInv_hit HI.out ht (by simp [hget])
          have he : (r, s') = ((0, 91), s) := by
            rcases HR.out with ⟨_, h⟩ | ⟨h, _⟩
            · exact h
            · rw [hcl] at h; cases h
          cases he
          have hfin := Lib.hid (show StPost own w p (.tuple #[.int .i64 0, .int .i64 91]) s (.returned (.tuple #[.int .i64 0, .int .i64 91])) w8 from ⟨rfl, own, HS.out.frm hF48 (fun b hb e => by have := HO.out b hb; omega), .of_frm (HF.out.trans hF48 (fun x hx e => by omega) |>.mono fun _ _ h => h.elim) fun _ h => .inl h⟩)
          clear hlk hget hcl hF58 hF48 hv8 hm8 hF8 hz5 hz7 ht
          go_wp2
          go_ret2
          exact hfin.out
        | none =>
          have hlk' : (Instr.lookup 94 (.map (some (w.heap.size + 1 + 1 + 1 + 1))) (.int .i64 t) true).run Try.prog w8 = .ok (.tuple #[.int .i64 0, .bool false]) w8 := by rw [hlk]; simp [mval, hget]
          have HI' := Lib.hid (renInv_miss HI.out ht (by simp [hget]) kv)
          have hF9 := Lib.hid (show Frm (fun b => b = (w.heap.size + 1 + 1 + 1 + 1)) w5 w8 from ⟨hF58.os, hF58.tape, hF58.output, hF58.size, fun b hb hn => hF58.block b hb (by omega)⟩)
          have hbt : bo ≠ (w.heap.size + 1 + 1 + 1 + 1) ∧ w5.heap.size ≠ (w.heap.size + 1 + 1 + 1 + 1) := by constructor <;> omega
          clear hlk hget hF58 hF48 hv8 hF8 hz5 hz7 ht
          go_wp2_with (first | (at_mapUpdate; refine wpList_update rfl _ _ _ 94 rfl keyInt Try.underlying94 t kv rfl rfl rfl hm8 ?_; intro w9 hm9 hg9) | go_in)
          go_roundg k1
          case measure => exact Nat.lt_succ_self _
          case rel => exact ⟨Aq ++ B, kv :: done, mput taken t kv, Lib.hid (HRG.out.frm (Frm.of_grown hg9) (fun e => by have := Option.some.inj e; omega) (fun e => by have := Option.some.inj e; omega)), Lib.hid hm9, Lib.hid (hF9.out.grown hg9 fun x e => .inl (by cases e; rfl)), HI', Lib.hid (by have := HL.out; simp at this ⊢; omega)⟩

theorem Rename_calls {w : World} {own : Nat → Prop} {p : Nat} {s : Sto} (hS : StoreAt w own p s) (k : Nat) (f : Int) (vv : Value) (to : List Int) (hv : Sees w (Value.int .i64) vv to) (hvo : ∀ g, InBlk vv g → g < w.heap.size → ¬ own g)
    (hkeys : (to.length : Int) = s.vars → ∀ out, supportF k s f = some out → ∀ v ∈ out.map (·.1), (nth to v).isSome = true) (r : Int × Int) (s' : Sto) (hr : renameF k s f to = some (r, s')) :
    Calls Try.prog 32 #[.pointer (some ⟨p, 0, none⟩), .int .i64 f, vv] w (StPost own w p (.tuple #[.int .i64 r.1, .int .i64 r.2]) s') := by
  unfold renameF at hr
  by_cases hin : inB s f = false
  · rw [if_pos hin] at hr
    cases hr
    have := Rename_bad hS k f vv to hv (.inl hin)
    rw [if_pos hin] at this
    exact this
  · rw [if_neg hin] at hr
    by_cases hb : (to.length : Int) ≠ s.vars ∨ to.any (badVar s) = true
    · rw [if_pos hb] at hr
      cases hr
      have := Rename_bad hS k f vv to hv (.inr hb)
      rw [if_neg hin] at this
      exact this
    · rw [if_neg hb] at hr
      cases ho : supportF k s f with
      | none => rw [ho] at hr; cases hr
      | some out =>
      rw [ho] at hr
      simp only at hr
      have hl : (to.length : Int) = s.vars := Decidable.of_not_not fun h => hb (.inl h)
      have hbad : to.any (badVar s) = false := by
        cases h : to.any (badVar s) with
        | false => rfl
        | true => exact absurd (.inr h) hb
      refine Rename_good hS k f vv to hv hvo (by simpa using hin) hl hbad out ho (hkeys hl out ho) r s' ?_
      cases hc : clash to (out.map (·.1)) with
      | true => rw [hc] at hr; simp at hr; exact .inl ⟨rfl, by rw [← hr.1, ← hr.2]⟩
      | false =>
        rw [hc] at hr
        simp only [Bool.false_eq_true, if_false] at hr
        cases hq : overF Sto.l (renameOne k to) k s [] f with
        | none => rw [hq] at hr; cases hr
        | some q =>
          rw [hq] at hr
          cases hr
          exact .inr ⟨rfl, q.2.2, rfl⟩
end BddW
end Go.Proofs.Ytjajpdmmoiiojaa
