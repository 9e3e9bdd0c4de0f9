/- append, copy, clear, a new map. -/
import Derived.Test.YtigniafapkbbbaaGreatDoorAiOps5
namespace Go.AI

section
variable {P : Program} {CC : CodeRel} {ρ : Rho} {h h' : Heap} {w : World} {T : Tab} {ng : Nat} {e : Env} {a : Act} {c v : Value}

theorem VR.slice_some {x : Addr} {n cp : Nat} (h : VR ρ (.slice (some x) n cp) c) : ∃ b o r ca ccap, x = ⟨b, o, none⟩ ∧ ρ b = some r ∧ c = .slice (some ca) n ccap ∧ SliceOk r o n cp ca ccap := by
  cases h with
  | val h => cases h with
    | cell h => cases h with
      | cell h => cases h with
        | slice h hs => exact ⟨_, _, _, _, _, rfl, h, rfl, hs⟩

theorem SliceOk.cap_le {r : Img} {o len cap ccap : Nat} {ca : Addr} (h : SliceOk r o len cap ca ccap) : cap ≤ ccap := by
  rcases h.2.1 with h | ⟨_, h, _⟩ <;> omega
theorem SliceOk.addr {r : Img} {o len cap ccap : Nat} {ca : Addr} (h : SliceOk r o len cap ca ccap) (hc : 0 < ccap) : ca = ⟨r.blk, r.base + o, none⟩ := by
  rcases h.1 with h | ⟨h, _⟩
  · exact h
  · omega

theorem Sim.drew (S : Sim CC ρ h w) : Sim CC ρ h ({ w with drawn := w.drawn + 1 } : World) := S.drawn _

/-- a new slice in a new block, behind a draw -/
theorem grown_rel (S : Sim CC ρ h w) {cs ccs rest : List Value} {el n ncap size : Nat} (hk : All2 (KR ρ) cs ccs) (hl : cs.length = n * size) (hsz : 0 < size) (hn : n ≤ ncap) (hr : rest.length = (ncap - n) * size) (hc : ∀ c ∈ rest, constCell c = true) :
    ∃ ρ', VR ρ' (.slice (some ⟨h.next, 0, none⟩) n n) (.slice (some ⟨w.heap.size, 0, none⟩) n ncap) ∧
      Sim CC ρ' (newBlk h cs size) (({ w with drawn := w.drawn + 1 } : World).alloc (.cells ⟨ccs ++ rest⟩ el)) ∧
      Ext ρ h w ρ' (newBlk h cs size) (({ w with drawn := w.drawn + 1 } : World).alloc (.cells ⟨ccs ++ rest⟩ el)) := by
  obtain ⟨im, g1, g2, g3, g4, g5, g7, g8⟩ := new_blk (rest := rest) S.drew hk el size (fun _ => hc)
  have hroom : (ccs ++ rest).length = ncap * size := by
    rw [List.length_append, ← hk.length, hl, hr, Nat.sub_mul]
    have : n * size ≤ ncap * size := Nat.mul_le_mul_right _ hn
    omega
  refine ⟨_, (CR.slice (updR_self _ _ _) ⟨.inl ?_, .inr ⟨by omega, hn, ?_, ?_⟩, Nat.le_refl _⟩).vr, g7, (Ext.drawn _).trans g8⟩
  · rw [g1, g2]
  · rw [g3, g4, hl]; omega
  · rw [g4, g5, hroom]; omega

theorem op_append (hT : TabOk P T) {t t' ty el : TypeId} {i i' ei : TI} {x y : Operand} {zeros : Bool} (hti : T t = some i) (hu : i.u = .slice el) (hel : T el = some ei) (hti' : T t' = some i')
    (hz : if zeros then ∃ k, i'.u = .int k else ∃ el', i'.u = .slice el') (S : Sim CC ρ h w) (hE : ER ρ e a.tmps) (hG : Globs ng ρ) (hx : opdOk ng x = true) (hy : opdOk ng y = true)
    (hv : opV e h (.append ei.zero ei.bytes zeros x y) = some (v, h')) :
    Out CC ρ h w v h' (((do pure (Next.value (← Builtin.append_ #[t, t'] ty #[a.eval x, a.eval y]))) : Sem Next).run P w) := by
  have hut := (hT t i hti).u
  rw [hu] at hut
  have hei := hT _ _ hel
  have hzl := hei.len
  have hrx := hE.eval hG hx
  have hry := hE.eval hG hy
  simp only [opV] at hv
  split at hv
  · rename_i n cs hn
    obtain ⟨ccs, hk, hcl, hadd⟩ := news_rel hT hel hti' hz S hry hn
    have hccl : ccs.length = n * ei.size := by rw [← hk.length, hcl]
    unfold appendV at hv
    split at hv
    · rename_i sa len cap hs
      rw [hs] at hrx
      split at hv
      · rename_i hzpos
        have hsz : 0 < ei.size := by rw [← hzl]; exact blt_iff.1 hzpos
        split at hv
        · -- nothing is added
          rename_i h0
          have h0 := Nat.eq_of_beq_eq_true h0
          subst h0
          split at hv
          · rename_i hlc
            have hlc := Nat.le_of_ble_eq_true hlc
            cases hv
            have hc0 : ccs = [] := List.eq_nil_of_length_eq_zero (by rw [hccl]; simp)
            subst hc0
            cases sa with
            | none =>
              have hxe := hrx.nilslice_inv
              rw [hxe] at hrx ⊢
              have := (append_in (t := t) (ty := ty) hei hut (sa := none) (len := len) (ccap := cap) hadd hccl hsz (by simp)).1 (by omega)
              exact Out.same S (run_v (this.trans rfl)) hrx
            | some ad =>
              obtain ⟨b, o, r, ca, ccap, rfl, hr, hc, hok⟩ := hrx.slice_some
              have hle := hok.cap_le
              rw [hc] at hrx ⊢
              have := (append_in (t := t) (ty := ty) hei hut (sa := some ca) (len := len) (ccap := ccap) hadd hccl hsz (by simp)).1 (by omega)
              exact Out.same S (run_v (this.trans rfl)) hrx
          · cases hv
        · rename_i hn0
          have hnpos : 0 < n := by
            rcases Nat.eq_zero_or_pos n with h | h
            · subst h; exact absurd rfl hn0
            · exact h
          split at hv
          · rename_i hroom
            simp only [Bool.and_eq_true] at hroom
            have hr1 := Nat.le_of_ble_eq_true hroom.1
            have hr2 := Nat.le_of_ble_eq_true hroom.2
            have hnb : n * ei.bytes ≤ 1099511627776 := Nat.le_trans (Nat.mul_le_mul_right _ (by omega)) hr2
            split at hv
            · -- onto nil
              split at hv
              · rename_i h0
                simp only [Bool.and_eq_true] at h0
                have hl0 := Nat.eq_of_beq_eq_true h0.1
                have hc0 := Nat.eq_of_beq_eq_true h0.2
                subst hl0; subst hc0
                cases hv
                rw [hrx.nilslice_inv]
                obtain ⟨ncap, rest, g1, g2, g4, g3⟩ := (append_in (t := t) (ty := ty) hei hut (sa := none) (len := 0) (ccap := 0) hadd hccl hsz hnb).2 (by omega) hr2 hr1 [] (by simp) (fun k => by simp [Builtin.firstCells])
                rw [Nat.zero_add] at g1 g2 g3
                obtain ⟨ρ', hvr, hs', hx'⟩ := grown_rel (el := el) S hk hcl hsz g1 g2 g4
                rw [hzl]
                exact ⟨ρ', _, _, .inl (run_v g3), hvr, hs', hx'⟩
              · cases hv
            · rename_i b off
              split at hv
              · rename_i old o st ho
                obtain ⟨r, ca, ccap, hr, hc, hok⟩ := hrx.slice_inv
                have hcap := hok.cap_le
                have hlen := hok.2.2
                obtain ⟨ccells, el', fr, q1, q2, q3, q4, q5, q6⟩ := S.obj b r _ hr ho
                have hfr := q5 rfl
                subst hfr
                rw [hc]
                split at hv
                · -- room that is known
                  rename_i hfit
                  have hfit := Nat.le_of_ble_eq_true hfit
                  split at hv
                  · rename_i h'' hw
                    cases hv
                    obtain ⟨w', hrun, S', E'⟩ := write_rel (P := P) S hr hw hk
                    have := (append_in (t := t) (ty := ty) hei hut (sa := some ca) (len := len) (ccap := ccap) hadd hccl hsz hnb).1 (by omega)
                    refine ⟨ρ, w', .slice (some ca) (len + n) ccap, .inl (run_v ?_), (CR.slice hr ⟨hok.1, hok.2.1, hfit⟩).vr, S', E'⟩
                    rw [this]
                    dsimp only
                    rw [hok.addr (by omega), addr_add, Nat.add_assoc, ← hzl, hrun]
                    rfl
                  · cases hv
                · rename_i hnofit
                  have hnofit : cap < len + n := by
                    rcases Nat.lt_or_ge cap (len + n) with h | h
                    · exact h
                    · exact absurd (Nat.ble_eq_true_of_le h) hnofit
                  dsimp only at hv
                  by_cases hrlb : Nat.beq ((old.drop off).take (len * ei.zero.length)).length (len * ei.zero.length) = true
                  · rw [if_pos hrlb] at hv
                    have hrl := Nat.eq_of_beq_eq_true hrlb
                    -- the old cells
                    have hrd : readAt h b off (len * ei.size) = some ((old.drop off).take (len * ei.size)) := by
                      unfold readAt
                      rw [ho]
                      rw [hzl] at hrl
                      simp only [hrl, Nat.beq_refl, if_true]
                    obtain ⟨hol, olds, hko, hoc⟩ := read_rel S hr hrd
                    have holl : olds.length = len * ei.size := by rw [← hko.length, hol]
                    have hfirst : ∀ k, (Builtin.firstCells ei.size len (.slice (some ca) len ccap)).run P { w with drawn := k } = .ok ⟨olds⟩ { w with drawn := k } := by
                      intro k
                      by_cases hc0 : 0 < ccap
                      · rw [hok.addr hc0]
                        exact run_firstCells_some (P := P) { w with drawn := k } ei.size len ⟨r.blk, r.base + off, none⟩ len ccap olds holl hoc
                      · have hl0 : len = 0 := by omega
                        subst hl0
                        have : olds = [] := List.eq_nil_of_length_eq_zero (by rw [holl]; simp)
                        subst this
                        simp [Builtin.firstCells, loadCells, loadCellsFrom]
                    have hkk := hko.app hk
                    have hkl : ((old.drop off).take (len * ei.size) ++ cs).length = (len + n) * ei.size := by
                      rw [List.length_append, hol, hcl, Nat.add_mul]
                    -- a new block, where the capacity is spent
                    have grow : ∀ (h1 : Heap), (Sim CC ρ h1 w ∧ Ext ρ h w ρ h1 w) → h1.next = h.next → ccap < len + n →
                        Out CC ρ h w (.slice (some ⟨h.next, 0, none⟩) (len + n) (len + n)) (newBlk h1 ((old.drop off).take (len * ei.size) ++ cs) ei.size)
                          (((do pure (Next.value (← Builtin.append_ #[t, t'] ty #[.slice (some ca) len ccap, a.eval y]))) : Sem Next).run P w) := by
                      intro h1 ⟨S1, E1⟩ hnext hlt
                      obtain ⟨ncap, rest, g1, g2, g4, g3⟩ := (append_in (t := t) (ty := ty) hei hut (sa := some ca) (len := len) (ccap := ccap) hadd hccl hsz hnb).2 hlt hr2 hr1 olds holl hfirst
                      obtain ⟨ρ', hvr, hs', hx'⟩ := grown_rel (el := el) S1 hkk hkl hsz g1 g2 g4
                      rw [hnext] at hvr
                      exact ⟨ρ', _, _, .inl (run_v g3), hvr, hs', E1.trans hx'⟩
                    split at hv
                    · rename_i hexact
                      cases hv
                      rw [hzl]
                      refine grow h ⟨S, .refl ρ h w⟩ rfl ?_
                      rcases hok.2.1 with h5 | ⟨h5, h6, h7, _⟩
                      · omega
                      · exfalso
                        simp only [Bool.or_eq_true, Bool.not_eq_true'] at hexact
                        rcases hexact with h8 | h8
                        · exact h5 (q3.trans (Nat.eq_of_beq_eq_true h8))
                        · rw [q3, q2] at h7
                          rw [h7, Nat.beq_refl] at h8
                          cases h8
                    · rename_i hopen
                      split at hv
                      · rename_i hoz
                        have hoz := Nat.eq_of_beq_eq_true hoz
                        cases hv
                        rw [hzl]
                        by_cases hlt : ccap < len + n
                        · exact grow _ (S.less b) rfl hlt
                        · -- in place, in room that was not known
                          have hroomy : len + n ≤ ccap := by omega
                          have hopn : r.opn = ei.size := by rw [q3, hoz, hzl]
                          have halt : off + ccap * r.opn ≤ r.room := by
                            rcases hok.2.1 with h5 | ⟨_, _, _, h8⟩
                            · omega
                            · exact h8
                          have hlow : off + cap * r.opn = r.len := by
                            rcases hok.2.1 with h5 | ⟨_, _, h8, _⟩
                            · omega
                            · exact h8
                          have hlow2 : cap * ei.size ≤ (len + n) * ei.size := Nat.mul_le_mul_right _ (by omega)
                          rw [hopn] at halt hlow
                          have haddr := hok.addr (show 0 < ccap by omega)
                          have hmul : (len + n) * ei.size ≤ ccap * ei.size := Nat.mul_le_mul_right _ hroomy
                          rw [Nat.add_mul] at hmul
                          have hfit : r.base + (off + len * ei.size) + 0 + ccs.length ≤ ccells.size := by rw [hccl, ← q4.1]; omega
                          have hrun := run_storeCells_at (P := P) r.blk (r.base + (off + len * ei.size)) el' ccs 0 ccells w q1 hfit (fun u hm => by
                            obtain ⟨i, hi⟩ := List.getElem?_of_mem hm
                            have hx : cs[i]? = some (cs[i]'(by rw [hk.length]; exact (List.getElem?_eq_some_iff.1 hi).1)) := List.getElem?_eq_getElem _
                            obtain ⟨c, hc, hkr⟩ := hk.get hx
                            rw [hi] at hc; cases hc
                            exact oneCell_of_plain hkr.plain.2)
                          have happ := (append_in (t := t) (ty := ty) hei hut (sa := some ca) (len := len) (ccap := ccap) hadd hccl hsz hnb).1 hroomy
                          have hspl : ccells.toList.take (r.base + (off + len * ei.size) + 0) ++ ccs ++ ccells.toList.drop (r.base + (off + len * ei.size) + 0 + ccs.length) = splice ccells.toList (r.base + (off + len * ei.size)) ccs := by simp [splice]
                          rw [hspl] at hrun
                          have hfit' : r.base + (off + len * ei.size) + ccs.length ≤ ccells.toList.length := by simpa using hfit
                          have hob : ObjOk CC (updR ρ h.next ⟨r.blk, r.base + off, (len + n) * ei.size, ei.size, r.room - off⟩) ⟨r.blk, r.base + off, (len + n) * ei.size, ei.size, r.room - off⟩
                              (.blk ((old.drop off).take (len * ei.size) ++ cs) false ei.size 0) (w.setRow r.blk (splice ccells.toList (r.base + (off + len * ei.size)) ccs).toArray) := by
                            refine ⟨_, el', (0, 0), setRow_heap w r.blk ccells _ el' _ q1, hkl.symm, rfl, ⟨?_, ?_⟩, fun _ => rfl, ?_⟩
                            rotate_left 1
                            · intro hop j u hj hu
                              dsimp only at hj hu
                              simp only [List.getElem?_toArray] at hu
                              have hj2 := hj
                              rw [Nat.add_mul] at hj2
                              rw [splice_get hfit', if_neg (by omega)] at hu
                              exact q4.2 (by omega) (off + j) u (by omega) (by simpa [Nat.add_assoc] using hu)
                            rotate_left 1
                            · have q4 := q4.1
                              simp only [List.size_toArray, splice_length hfit', Array.length_toList]
                              omega
                            · intro j u hj
                              simp only [List.getElem?_toArray]
                              rw [splice_get hfit']
                              by_cases hjl : j < len * ei.size
                              · rw [if_neg (by omega)]
                                rw [List.getElem?_append_left (by rw [hol]; exact hjl), List.getElem?_take, if_pos hjl, List.getElem?_drop] at hj
                                obtain ⟨c, hc1, hc2⟩ := q6 _ _ hj
                                exact ⟨c, by rw [← hc1]; simp [Nat.add_assoc], hc2.mono (updR_le S.fresh)⟩
                              · rw [List.getElem?_append_right (by rw [hol]; omega), hol] at hj
                                obtain ⟨c, hc1, hc2⟩ := hk.get hj
                                have hjn := (List.getElem?_eq_some_iff.1 hc1).1
                                rw [if_pos (by omega)]
                                refine ⟨c, ?_, hc2.mono (updR_le S.fresh)⟩
                                rw [← hc1]; congr 1; omega
                          obtain ⟨S', E'⟩ := Sim.move S hr ho rfl (im := ⟨r.blk, r.base + off, (len + n) * ei.size, ei.size, r.room - off⟩) rfl (At1.row _ _) hob
                          refine ⟨_, _, .slice (some ca) (len + n) ccap, .inl (run_v ?_), (CR.slice (updR_self _ _ _) ⟨.inl ?_, .inr ⟨by show ei.size ≠ 0; omega, hroomy, by show 0 + (len + n) * ei.size = (len + n) * ei.size; omega, by show 0 + ccap * ei.size ≤ r.room - off; omega⟩, Nat.le_refl _⟩).vr, S', E'⟩
                          · rw [happ]
                            dsimp only
                            rw [haddr, addr_add, Nat.add_assoc, hrun]
                            rfl
                          · rw [haddr]
                            rfl
                      · cases hv
                  · rw [if_neg hrlb] at hv
                    cases hv
              · cases hv
            · cases hv
          · cases hv
      · cases hv
    · cases hv
  · cases hv
end
end Go.AI
