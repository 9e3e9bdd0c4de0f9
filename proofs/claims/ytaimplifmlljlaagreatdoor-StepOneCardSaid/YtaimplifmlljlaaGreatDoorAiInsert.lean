/- slices.Insert of one element ahead of another one: what its code does, whether there is room or not. -/
import Derived.Test.YtaimplifmlljlaaGreatDoorAiWalk2
import Derived.Test.YtaimplifmlljlaaGreatDoorAiTop
namespace Go.AI

/-- the code of slices.Insert -/
def insBody (z : List Value) (o bytes fo fs : Nat) : ACode := (.seq (.ops [⟨(some 6), none, (.mv (.const (.slice none 0 0)))⟩]) (.seq (.ops [⟨(some 10), none, (.mv (.tmp 0))⟩, ⟨(some 11), none, (.mv (.tmp 1))⟩, ⟨(some 12), none, (.slice o (.tmp 10) (some (.tmp 11)) none none)⟩]) (.seq (.ops [⟨(some 13), none, (.mv (.tmp 2))⟩, ⟨(some 14), none, (.blen (.tmp 13))⟩, ⟨(some 7), none, (.mv (.tmp 14))⟩]) (.seq (.seq (.ops [⟨(some 15), none, (.mv (.tmp 7))⟩, ⟨(some 16), none, (.bin .eql [1] (.tmp 15) (.const (.int .i64 0)))⟩]) (.cond (.tmp 16) (.seq (.ops [⟨(some 17), none, (.mv (.tmp 0))⟩, ⟨(some 6), none, (.mv (.tmp 17))⟩]) .ret) .skip)) (.seq (.ops [⟨(some 18), none, (.mv (.tmp 0))⟩, ⟨(some 19), none, (.blen (.tmp 18))⟩, ⟨(some 8), none, (.mv (.tmp 19))⟩]) (.seq (.seq (.ops [⟨(some 20), none, (.mv (.tmp 1))⟩, ⟨(some 21), none, (.mv (.tmp 8))⟩, ⟨(some 22), none, (.bin .eql [1] (.tmp 20) (.tmp 21))⟩]) (.cond (.tmp 22) (.seq (.ops [⟨(some 23), none, (.mv (.tmp 0))⟩, ⟨(some 24), none, (.mv (.tmp 2))⟩, ⟨(some 25), none, (.append z bytes false (.tmp 23) (.tmp 24))⟩, ⟨(some 6), none, (.mv (.tmp 25))⟩]) .ret) .skip)) (.seq (.seq (.ops [⟨(some 26), none, (.mv (.tmp 8))⟩, ⟨(some 27), none, (.mv (.tmp 7))⟩, ⟨(some 28), none, (.bin .add [] (.tmp 26) (.tmp 27))⟩, ⟨(some 29), none, (.mv (.tmp 0))⟩, ⟨(some 30), none, (.bcap (.tmp 29))⟩, ⟨(some 31), none, (.bin .gtr [] (.tmp 28) (.tmp 30))⟩]) (.cond (.tmp 31) (.seq (.ops [⟨(some 32), none, (.mv (.tmp 0))⟩, ⟨(some 33), none, (.mv (.tmp 1))⟩, ⟨(some 34), none, (.slice o (.tmp 32) none (some (.tmp 33)) none)⟩, ⟨(some 35), none, (.mv (.tmp 8))⟩, ⟨(some 36), none, (.mv (.tmp 7))⟩, ⟨(some 37), none, (.bin .add [] (.tmp 35) (.tmp 36))⟩, ⟨(some 38), none, (.mv (.tmp 1))⟩, ⟨(some 39), none, (.bin .sub [] (.tmp 37) (.tmp 38))⟩, ⟨(some 40), none, (.append z bytes true (.tmp 34) (.tmp 39))⟩, ⟨(some 9), none, (.mv (.tmp 40))⟩]) (.seq (.ops [⟨(some 41), none, (.mv (.tmp 9))⟩, ⟨(some 42), none, (.mv (.tmp 1))⟩, ⟨(some 43), none, (.slice o (.tmp 41) (some (.tmp 42)) none none)⟩, ⟨(some 44), none, (.mv (.tmp 2))⟩, ⟨(some 45), none, (.copy o (.tmp 43) (.tmp 44))⟩]) (.seq (.draw [(⟨(some 46), none, (.mv (.tmp 9))⟩, []), (⟨(some 47), none, (.mv (.tmp 1))⟩, []), (⟨(some 48), none, (.mv (.tmp 7))⟩, []), (⟨(some 49), none, (.bin .add [] (.tmp 47) (.tmp 48))⟩, []), (⟨(some 50), none, (.slice o (.tmp 46) (some (.tmp 49)) none none)⟩, []), (⟨(some 51), none, (.mv (.tmp 0))⟩, []), (⟨(some 52), none, (.mv (.tmp 1))⟩, []), (⟨(some 53), none, (.slice o (.tmp 51) (some (.tmp 52)) none none)⟩, []), (⟨(some 54), none, (.copy o (.tmp 50) (.tmp 53))⟩, [])]) (.seq (.ops [⟨(some 55), none, (.mv (.tmp 9))⟩, ⟨(some 6), none, (.mv (.tmp 55))⟩]) .ret)))) .skip)) (.seq (.ops [⟨(some 56), none, (.mv (.tmp 0))⟩, ⟨(some 57), none, (.mv (.tmp 8))⟩, ⟨(some 58), none, (.mv (.tmp 7))⟩, ⟨(some 59), none, (.bin .add [] (.tmp 57) (.tmp 58))⟩, ⟨(some 60), none, (.slice o (.tmp 56) none (some (.tmp 59)) none)⟩, ⟨(some 0), none, (.mv (.tmp 60))⟩]) (.seq (.seq (.ops [⟨(some 61), none, (.mv (.tmp 2))⟩, ⟨(some 62), none, (.mv (.tmp 0))⟩, ⟨(some 63), none, (.mv (.tmp 1))⟩, ⟨(some 64), none, (.mv (.tmp 7))⟩, ⟨(some 65), none, (.bin .add [] (.tmp 63) (.tmp 64))⟩, ⟨(some 66), none, (.slice o (.tmp 62) (some (.tmp 65)) none none)⟩, ⟨(some 67), none, (.call (.func fo) [(.tmp 61), (.tmp 66)])⟩, ⟨(some 68), none, (.un .not (.tmp 67))⟩]) (.cond (.tmp 68) (.seq (.draw [(⟨(some 69), none, (.mv (.tmp 0))⟩, []), (⟨(some 70), none, (.mv (.tmp 1))⟩, []), (⟨(some 71), none, (.mv (.tmp 7))⟩, []), (⟨(some 72), none, (.bin .add [] (.tmp 70) (.tmp 71))⟩, []), (⟨(some 73), none, (.slice o (.tmp 69) (some (.tmp 72)) none none)⟩, []), (⟨(some 74), none, (.mv (.tmp 0))⟩, []), (⟨(some 75), none, (.mv (.tmp 1))⟩, []), (⟨(some 76), none, (.slice o (.tmp 74) (some (.tmp 75)) none none)⟩, []), (⟨(some 77), none, (.copy o (.tmp 73) (.tmp 76))⟩, [])]) (.seq (.ops [⟨(some 78), none, (.mv (.tmp 0))⟩, ⟨(some 79), none, (.mv (.tmp 1))⟩, ⟨(some 80), none, (.slice o (.tmp 78) (some (.tmp 79)) none none)⟩, ⟨(some 81), none, (.mv (.tmp 2))⟩, ⟨(some 82), none, (.copy o (.tmp 80) (.tmp 81))⟩]) (.seq (.ops [⟨(some 83), none, (.mv (.tmp 0))⟩, ⟨(some 6), none, (.mv (.tmp 83))⟩]) .ret))) .skip)) (.seq (.ops [⟨(some 84), none, (.mv (.tmp 0))⟩, ⟨(some 85), none, (.mv (.tmp 8))⟩, ⟨(some 86), none, (.slice o (.tmp 84) (some (.tmp 85)) none none)⟩, ⟨(some 87), none, (.mv (.tmp 2))⟩, ⟨(some 88), none, (.copy o (.tmp 86) (.tmp 87))⟩]) (.seq (.ops [⟨(some 89), none, (.mv (.tmp 0))⟩, ⟨(some 90), none, (.mv (.tmp 1))⟩, ⟨(some 91), none, (.slice o (.tmp 89) (some (.tmp 90)) none none)⟩, ⟨(some 92), none, (.mv (.tmp 7))⟩, ⟨(some 93), none, (.call (.func fs) [(.tmp 91), (.tmp 92)])⟩]) (.seq (.ops [⟨(some 94), none, (.mv (.tmp 0))⟩, ⟨(some 6), none, (.mv (.tmp 94))⟩]) .ret))))))))))))

/-- what lies ahead, the new one, what lies behind -/
def insCells (cs vs : List Value) (off i len o : Nat) : List Value := (cs.drop off).take (i * o) ++ vs ++ (cs.drop (off + i * o)).take ((len - i) * o)

theorem length_insCells {cs vs : List Value} {off i len o : Nat} (hi : i < len) (hv : vs.length = o) (hc : off + len * o ≤ cs.length) : (insCells cs vs off i len o).length = (len + 1) * o := by
  have h1 : i * o + (len - i) * o = len * o := by rw [← Nat.add_mul]; congr 1; omega
  simp only [insCells, List.length_append, List.length_take, List.length_drop, hv, Nat.add_mul]
  omega

theorem ins_new {R Z T vs : List Value} {i o len : Nat} (hR : R.length = i * o) (hv : vs.length = o) (hi : i < len) (hZ : Z.length = (len + 1 - i) * o) (hT : T.length = (len - i) * o) :
    splice (splice (R ++ Z) (i * o) vs) ((i + 1) * o) T = R ++ vs ++ T := by
  have e1 : (len + 1 - i) * o = (len - i) * o + o := by rw [show len + 1 - i = len - i + 1 by omega, Nat.add_mul]; omega
  have e2 : (i + 1) * o = i * o + o := by rw [Nat.add_mul]; omega
  unfold splice
  have a1 : (R ++ Z).take (i * o) = R := by rw [List.take_append_of_le_length (by omega), List.take_of_length_le (by omega)]
  rw [a1]
  have a2 : (R ++ vs ++ (R ++ Z).drop (i * o + vs.length)).take ((i + 1) * o) = R ++ vs := by rw [List.take_append_of_le_length (by simp; omega), List.take_of_length_le (by simp; omega)]
  have a3 : (R ++ vs ++ (R ++ Z).drop (i * o + vs.length)).drop ((i + 1) * o + T.length) = [] := List.drop_eq_nil_of_le (by simp [hR, hv, hZ, hT]; omega)
  rw [a2, a3, List.append_nil]

theorem ins_in {cs vs : List Value} {off i o len : Nat} (hv : vs.length = o) (hi : i < len) (hl : off + (len + 1) * o ≤ cs.length) :
    splice (splice cs (off + (i + 1) * o) ((cs.drop (off + i * o)).take ((len - i) * o))) (off + i * o) vs = cs.take off ++ insCells cs vs off i len o ++ cs.drop (off + (len + 1) * o) := by
  have e2 : (i + 1) * o = i * o + o := by rw [Nat.add_mul]; omega
  have e3 : (len + 1) * o = len * o + o := by rw [Nat.add_mul]; omega
  have e4 : i * o + (len - i) * o = len * o := by rw [← Nat.add_mul]; congr 1; omega
  have hT : ((cs.drop (off + i * o)).take ((len - i) * o)).length = (len - i) * o := by simp; omega
  unfold splice insCells
  rw [hT, hv]
  have a1 : (cs.take (off + (i + 1) * o) ++ (cs.drop (off + i * o)).take ((len - i) * o) ++ cs.drop (off + (i + 1) * o + (len - i) * o)).take (off + i * o) = cs.take off ++ (cs.drop off).take (i * o) := by
    rw [List.append_assoc, List.take_append_of_le_length (by simp; omega), List.take_take, Nat.min_eq_left (by omega), List.take_add]
  have a2 : (cs.take (off + (i + 1) * o) ++ (cs.drop (off + i * o)).take ((len - i) * o) ++ cs.drop (off + (i + 1) * o + (len - i) * o)).drop (off + i * o + o) = (cs.drop (off + i * o)).take ((len - i) * o) ++ cs.drop (off + (len + 1) * o) := by
    rw [List.append_assoc, List.drop_append, List.length_take, Nat.min_eq_left (by omega), show off + i * o + o - (off + (i + 1) * o) = 0 by omega, List.drop_zero,
      List.drop_eq_nil_of_le (by simp; omega), List.nil_append, show off + (i + 1) * o + (len - i) * o = off + (len + 1) * o by omega]
  rw [a1, a2]
  simp only [List.append_assoc]

theorem length_repl (z : List Value) (n : Nat) : (repl z n).length = n * z.length := by
  induction n with
  | zero => simp [repl]
  | succ n ih => simp [repl, ih, Nat.add_mul]; omega

/-- The first of two: there is no room. -/
theorem ins_full {F : Nat → Option AFunc} {f fo fs : Nat} {z : List Value} {o bytes : Nat} (hf : F f = some ⟨[.tmp 6], insBody z o bytes fo fs, .no⟩) (hz : z.length = o) (ho : 0 < o) (hby : bytes ≤ 1000)
    {h : Heap} {b off len i x xo xc : Nat} {cs vs : List Value} {s xs : Nat} {xcs : List Value} {xro : Bool} {xop : Nat} (hi : i < len) (hlen : len < 1000000) (hb : h.tr.get b = some (.blk cs false 0 s)) (hl : off + len * o ≤ cs.length)
    (hx : h.tr.get x = some (.blk xcs xro xop xs)) (hvs : readAt h x xo o = some vs) (hbx : b ≠ x) (oldx : Old x h) (oldb : Old b h) :
    Does F f [.slice (some ⟨b, off, none⟩) len len, .int .i64 i, .slice (some ⟨x, xo, none⟩) 1 xc] h (fun v h' => v = .slice (some ⟨h.next, 0, none⟩) (len + 1) (len + 1) ∧ h'.next = h.next + 1 ∧ h.clock ≤ h'.clock ∧
      (∀ y, y < h.next → h'.tr.get y = h.tr.get y) ∧ ∃ s', h'.tr.get h.next = some (.blk (insCells cs vs off i len o) false o s')) := by
  obtain ⟨L, hL⟩ : ∃ L, L = len + 1 := ⟨_, rfl⟩
  obtain ⟨K, hK⟩ : ∃ K, K = L - i := ⟨_, rfl⟩
  obtain ⟨I, hI⟩ : ∃ I, I = i + 1 := ⟨_, rfl⟩
  rw [← hL]
  have w1 : IntKind.i64.wrap ((len : Int) + 1) = (L : Int) := by rw [wrap_i64 _ (by omega) (by omega)]; omega
  have w2 : IntKind.i64.wrap ((L : Int) - (i : Int)) = (K : Int) := by rw [wrap_i64 _ (by omega) (by omega)]; omega
  have w3 : IntKind.i64.wrap ((i : Int) + 1) = (I : Int) := by rw [wrap_i64 _ (by omega) (by omega)]; omega
  have q1 : ((i : Int) == (len : Int)) = false := by simp; omega
  have q2 : ¬ L ≤ len := by omega
  have q2' : len < L := by omega
  have q3 : i ≤ len := by omega
  have q4 : i + K = L := by omega
  have q5 : ¬ K = 0 := by omega
  have q6 : i ≤ L := by omega
  have q7 : I ≤ L := by omega
  have q8 : Nat.min 1 (L - i) = 1 := by show min 1 (L - i) = 1; omega
  have q9 : Nat.min (len - i) (L - I) = len - i := by show min (len - i) (L - I) = len - i; omega
  have q10 : ¬ len - i = 0 := by omega
  have r1 : roomy L = true := by simp [roomy]; omega
  have r2 : roomy (L * bytes) = true := by
    have : L * bytes ≤ 1000000 * 1000 := Nat.mul_le_mul (by omega) hby
    simp [roomy]; omega
  have r3 : roomy K = true := by simp [roomy]; omega
  have m1 : i * o + (len - i) * o = len * o := by rw [← Nat.add_mul]; congr 1; omega
  have m2 : L * o = len * o + o := by rw [hL, Nat.add_mul]; omega
  have m3 : I * o = i * o + o := by rw [hI, Nat.add_mul]; omega
  have m4 : i * o + K * o = L * o := by rw [← Nat.add_mul]; congr 1
  have e1 : ((cs.drop off).take (i * o)).length = i * o := by simp; omega
  have e2 : min (i * o) (cs.length - off) = i * o := by omega
  have q12 : o ≤ K * o := by omega
  have q15 : ¬ b = h.next := by have := oldb.lt; omega
  have q16 : min ((len - i) * o) (cs.length - (off + i * o)) = (len - i) * o := by omega
  have q17 : I * o + (len - i) * o ≤ L * o := by omega
  have q13 : ¬ x = h.next := by have := oldx.lt; omega
  have q14 : readAt h b (off + i * o) ((len - i) * o) = some ((cs.drop (off + i * o)).take ((len - i) * o)) := readAt_eq hb (by omega)
  have hlv : vs.length = o := by
    unfold readAt at hvs
    rw [hx] at hvs
    dsimp only at hvs
    split at hvs
    · rename_i hh; cases hvs; exact Nat.eq_of_beq_eq_true hh
    · cases hvs
  have q18 : (splice (List.take (i * o) (List.drop off cs) ++ repl z K) (i * o) vs).length = L * o := by simp [splice, length_repl, hz, hlv]; omega
  refine Does.of hf ?_
  unfold insBody
  simp [w1, w2, w3, q1, q2, q2', q3, q4, q5, q6, q7, q8, q9, q10, hb, hz, ho, r1, r2, r3, e1, e2, oldx, oldb, hvs, appendF, news, appendV, readAt_newBlk, readAt_put, readAt_tick, get_newBlk_old, hlv, q15, q16, q17, q18, length_repl, q12, q13, q14, -get_newBlk', -readAt_def]
  refine ⟨by omega, ?_, ?_⟩
  · intro y hy
    have h1 : ¬ y = h.next := by omega
    simp [h1, get_newBlk_old (show Old y h from hy)]
  · have := ins_new (R := (cs.drop off).take (i * o)) (Z := repl z K) (T := (cs.drop (off + i * o)).take ((len - i) * o)) (vs := vs) (i := i) (o := o) (len := len) e1 hlv hi (by rw [length_repl, hz, hK, hL]) (by simp; omega)
    rw [hI, this]
    rfl

/-- The second of two: there is room. -/
theorem ins_room {F : Nat → Option AFunc} {f fo fs : Nat} {z : List Value} {o bytes : Nat} {fov : AFunc} (hf : F f = some ⟨[.tmp 6], insBody z o bytes fo fs, .no⟩) (hfo : F fo = some fov) (hov : fov.prim = .ovl) (ho : 0 < o)
    {h : Heap} {b off len cap i x xo xc : Nat} {cs vs : List Value} {s xs : Nat} {xcs : List Value} {xop : Nat} (hi : i < len) (hcap : len < cap) (hlen : len < 1000000) (hb : h.tr.get b = some (.blk cs false 0 s)) (hl : off + cap * o ≤ cs.length)
    (hx : h.tr.get x = some (.blk xcs false xop xs)) (hvs : readAt h x xo o = some vs) (hbx : b ≠ x) :
    Does F f [.slice (some ⟨b, off, none⟩) len cap, .int .i64 i, .slice (some ⟨x, xo, none⟩) 1 xc] h (fun v h' => v = .slice (some ⟨b, off, none⟩) (len + 1) cap ∧ h'.next = h.next ∧ h.clock ≤ h'.clock ∧
      (∀ y, y < h.next → y ≠ b → h'.tr.get y = h.tr.get y) ∧ ∃ s', h'.tr.get b = some (.blk (cs.take off ++ insCells cs vs off i len o ++ cs.drop (off + (len + 1) * o)) false 0 s')) := by
  obtain ⟨L, hL⟩ : ∃ L, L = len + 1 := ⟨_, rfl⟩
  obtain ⟨I, hI⟩ : ∃ I, I = i + 1 := ⟨_, rfl⟩
  rw [← hL]
  have w1 : IntKind.i64.wrap ((len : Int) + 1) = (L : Int) := by rw [wrap_i64 _ (by omega) (by omega)]; omega
  have w3 : IntKind.i64.wrap ((i : Int) + 1) = (I : Int) := by rw [wrap_i64 _ (by omega) (by omega)]; omega
  have q1 : ((i : Int) == (len : Int)) = false := by simp; omega
  have q2 : ¬ cap < L := by omega
  have q2' : L ≤ cap := by omega
  have q3 : i ≤ len := by omega
  have q6 : i ≤ L := by omega
  have q7 : I ≤ L := by omega
  have q8 : Nat.min 1 (L - i) = 1 := by show min 1 (L - i) = 1; omega
  have q9 : Nat.min (L - i) (L - I) = len - i := by show min (L - i) (L - I) = len - i; omega
  have q10 : ¬ len - i = 0 := by omega
  have m1 : i * o + (len - i) * o = len * o := by rw [← Nat.add_mul]; congr 1; omega
  have m2 : L * o = len * o + o := by rw [hL, Nat.add_mul]; omega
  have m3 : I * o = i * o + o := by rw [hI, Nat.add_mul]; omega
  have m4 : L * o ≤ cap * o := Nat.mul_le_mul_right _ q2'
  have hlv : vs.length = o := by
    unfold readAt at hvs
    rw [hx] at hvs
    dsimp only at hvs
    split at hvs
    · rename_i hh; cases hvs; exact Nat.eq_of_beq_eq_true hh
    · cases hvs
  have q14 : readAt h b (off + i * o) ((len - i) * o) = some ((cs.drop (off + i * o)).take ((len - i) * o)) := readAt_eq hb (by omega)
  have q15 : ((cs.drop (off + i * o)).take ((len - i) * o)).length = (len - i) * o := by simp; omega
  have q16 : min ((len - i) * o) (cs.length - (off + i * o)) = (len - i) * o := by omega
  have q17 : off + I * o + (len - i) * o ≤ cs.length := by omega
  have q18 : (splice cs (off + I * o) ((cs.drop (off + i * o)).take ((len - i) * o))).length = cs.length := by simp [splice]; omega
  have q19 : off + i * o + o ≤ cs.length := by omega
  have q20 : ¬ x = b := fun e => hbx e.symm
  refine Does.of hf ?_
  unfold insBody
  simp [w1, w3, q1, q2, q2', q3, q6, q7, q8, q9, q10, hb]
  refine OpsR.callV (V := fun v h' => v = .bool false ∧ h' = h) (DoesV.ovl hfo hov (v := .bool false) (h' := h) ?_ ⟨rfl, rfl⟩) ?_
  · have hxb : Nat.beq x b = false := by
      cases e : Nat.beq x b with
      | true => exact absurd (Nat.eq_of_beq_eq_true e) q20
      | false => rfl
    simp [ovlV, hx, hb, hxb]
  rintro _ h' ⟨rfl, e⟩
  subst e
  simp [w1, w3, q1, q2, q2', q3, q6, q7, q8, q9, q10, hb, q14, readAt_tick, readAt_put, hvs, hlv, q15, q16, q17, q18, q19, q20, -readAt_def]
  refine ⟨by omega, fun y _ hy => by simp [hy], ?_⟩
  rw [hI, hL, ins_in hlv hi (by rw [← hL]; omega)]
  simp only [List.append_assoc]
end Go.AI

/- slices.Insert of one element ahead of another one, by a rule: it does not tell whether there was room. -/
namespace Go.AI

/-- the rule -/
def insV (o : Nat) (args : List Value) (h : Heap) : Option (Value × Heap) :=
  match args with
  | [.slice (some ⟨b, off, none⟩) len cap, .int .i64 (.ofNat i), .slice (some ⟨x, xo, none⟩) m _] =>
    match h.tr.get b, h.tr.get x with
    | some (.blk cs false op _), some (.blk _ false _ _) =>
      if Nat.beq len cap && Nat.blt i len && Nat.beq m 1 && Nat.beq op o && Nat.beq (off + cap * o) cs.length && !(Nat.beq b x) && Nat.blt len 1000000 then
        match readAt h x xo o with
        | some vs => some (.slice (some ⟨h.next + 8, 0, none⟩) (len + 1) (len + 1), newBlk { h with next := h.next + 8, tr := h.tr.del b } (insCells cs vs off i len o) o)
        | none => none
      else none
    | _, _ => none
  | _ => none

theorem insV_inv {o : Nat} {args : List Value} {h h' : Heap} {v : Value} (hv : insV o args h = some (v, h')) :
    ∃ b off len i x xo xc cs s xcs xop xs vs, args = [.slice (some ⟨b, off, none⟩) len len, .int .i64 (.ofNat i), .slice (some ⟨x, xo, none⟩) 1 xc] ∧ h.tr.get b = some (.blk cs false o s) ∧ h.tr.get x = some (.blk xcs false xop xs) ∧ i < len ∧
      off + len * o = cs.length ∧ b ≠ x ∧ len < 1000000 ∧ readAt h x xo o = some vs ∧ v = .slice (some ⟨h.next + 8, 0, none⟩) (len + 1) (len + 1) ∧ h' = newBlk { h with next := h.next + 8, tr := h.tr.del b } (insCells cs vs off i len o) o := by
  unfold insV at hv
  split at hv
  · rename_i b off len cap i x xo m xc
    split at hv
    · rename_i cs op s xcs xop xs hb hx
      split at hv
      · rename_i hc
        simp only [Bool.and_eq_true, Bool.not_eq_true'] at hc
        obtain ⟨⟨⟨⟨⟨⟨h1, h2⟩, h3⟩, h4⟩, h5⟩, h6⟩, h7⟩ := hc
        split at hv
        · rename_i vs hvs
          cases hv
          have e1 := Nat.eq_of_beq_eq_true h1
          have e3 := Nat.eq_of_beq_eq_true h3
          have e4 := Nat.eq_of_beq_eq_true h4
          have e5 := Nat.eq_of_beq_eq_true h5
          subst e1; subst e3; subst e4
          refine ⟨b, off, len, i, x, xo, xc, cs, s, xcs, xop, xs, vs, rfl, hb, hx, by simpa [Nat.blt_eq] using h2, e5, ?_, by simpa [Nat.blt_eq] using h7, hvs, rfl, rfl⟩
          rintro rfl
          rw [Nat.beq_refl] at h6; cases h6
        · cases hv
      · cases hv
    · cases hv
  · cases hv

theorem insV_keeps {o : Nat} {args : List Value} {h h' : Heap} {v : Value} (hv : insV o args h = some (v, h')) : Keeps h h' := by
  obtain ⟨b, off, len, i, x, xo, xc, cs, s, xcs, xop, xs, vs, _, hb, _, _, _, _, _, _, _, rfl⟩ := insV_inv hv
  have hget : ∀ y, (newBlk { h with next := h.next + 8, tr := h.tr.del b } (insCells cs vs off i len o) o).tr.get y = if y = h.next + 8 then some (.blk (insCells cs vs off i len o) false o 0) else if y = b then none else h.tr.get y := by
    intro y
    simp only [newBlk, Heap.new, Tr.get_set, Tr.get_del]
  refine ⟨by simp only [next_newBlk]; omega, Nat.le_refl _, ?_, ?_⟩
  · intro y cs' ro o' s' hy hg _
    rw [hget, if_neg (by omega)] at hg
    by_cases e : y = b
    · rw [if_pos e] at hg; cases hg
    · rwa [if_neg e] at hg
  · intro hwf y ob hg
    rw [hget] at hg
    by_cases e : y = h.next + 8
    · subst e; simp
    · rw [if_neg e] at hg
      by_cases e2 : y = b
      · rw [if_pos e2] at hg; cases hg
      · rw [if_neg e2] at hg
        have := hwf y ob hg
        simp only [next_newBlk]; omega

section
variable {P : Program} {CC : CodeRel} {ρ ρ₂ : Rho} {h h₂ : Heap} {w w₂ : World}

theorem const_KR {v c : Value} (k : KR ρ v c) (hv : constCell v = true) : constCell c = true := by
  cases k with
  | cell k => cases k <;> first | exact hv | cases hv
  | fn => cases hv
  | yield => cases hv

/-- Room among the numbers. -/
theorem Sim.bump (S : Sim CC ρ h w) {n : Nat} (hn : h.next ≤ n) : Sim CC ρ { h with next := n } w ∧ Ext ρ h w ρ { h with next := n } w :=
  ⟨⟨fun b r hb => ⟨Nat.lt_of_lt_of_le (S.low b r hb).1 hn, (S.low b r hb).2⟩, S.obj, S.inj, fun b o hb => Nat.lt_of_lt_of_le (S.wf b o hb) hn⟩,
    ⟨ρ.le_refl, hn, Nat.le_refl _, rfl, rfl, rfl, fun _ _ _ => rfl, fun b r hb hw => .inr ⟨b, r, hb, hw, rfl⟩, fun b r h h' => (by rw [h] at h'; cases h'), fun b r o hb ho => .inr ⟨b, r, o, hb, ho, rfl⟩⟩⟩

/-- Some objects of a memory. -/
theorem Sim.part {h' : Heap} (S : Sim CC ρ h w) (hn : h'.next = h.next) (hs : ∀ y o, h'.tr.get y = some o → h.tr.get y = some o) : Sim CC ρ h' w ∧ Ext ρ h w ρ h' w :=
  ⟨⟨fun b r hb => by rw [hn]; exact S.low b r hb, fun x r o hx ho => S.obj x r o hx (hs x o ho), fun x y rx ry p hx hy ⟨q, hq, hqr⟩ hp hne => S.inj x y rx ry p hx hy ⟨q, hs x q hq, hqr⟩ (hs y p hp) hne, fun x p hp => by rw [hn]; exact S.wf x p (hs x p hp)⟩,
    ⟨ρ.le_refl, Nat.le_of_eq hn.symm, Nat.le_refl _, rfl, rfl, rfl, fun _ _ _ => rfl, fun x r hx ⟨q, hq, hqr⟩ => .inr ⟨x, r, hx, ⟨q, hs x q hq, hqr⟩, rfl⟩, fun x r h1 h2 => (by rw [h1] at h2; cases h2), fun x r p hx hp => .inr ⟨x, r, p, hx, hs x p hp, rfl⟩⟩⟩

/-- What the insertion came to, as the rule tells it. -/
theorem ins_finish {k b : Nat} {r2 im : Img} {c2 cells : List Value} {op2 s2 o : Nat} (S2 : Sim CC ρ₂ h₂ w₂) (E : Ext ρ h w ρ₂ h₂ w₂) (hk : ρ₂ k = some r2) (ho : h₂.tr.get k = some (.blk c2 false op2 s2)) (him : im.blk = r2.blk)
    (hob : BlkOk ρ₂ im cells false o w₂) (hn : h₂.next ≤ h.next + 8) (hkn : h.next ≤ k) (hwf : ∀ y o, h.tr.get y = some o → y < h.next) (hsame : ∀ y, y < h.next → y ≠ b → h₂.tr.get y = h.tr.get y) :
    Sim CC (updR ρ₂ (h.next + 8) im) (newBlk { h with next := h.next + 8, tr := h.tr.del b } cells o) w₂ ∧ Ext ρ h w (updR ρ₂ (h.next + 8) im) (newBlk { h with next := h.next + 8, tr := h.tr.del b } cells o) w₂ ∧ ρ₂.le (updR ρ₂ (h.next + 8) im) := by
  obtain ⟨S3, E3⟩ := S2.bump hn
  have hle := updR_le (r := im) S3.fresh
  obtain ⟨S4, E4⟩ := S3.move (im := im) (o' := .blk cells false o 0) hk ho rfl him ⟨rfl, rfl, rfl, rfl, fun _ _ => rfl⟩ (ObjOk.mono (CC := CC) (o := .blk cells false o 0) hle rfl hob)
  obtain ⟨S5, E5⟩ := S4.part (h' := newBlk { h with next := h.next + 8, tr := h.tr.del b } cells o) rfl (by
    intro y ob hy
    simp only [newBlk, Heap.new, Tr.get_set, Tr.get_del] at hy ⊢
    by_cases e : y = h.next + 8
    · rw [if_pos e] at hy ⊢; exact hy
    · rw [if_neg e] at hy ⊢
      by_cases e2 : y = b
      · rw [if_pos e2] at hy; cases hy
      · rw [if_neg e2] at hy
        have hlt := hwf y ob hy
        rw [if_neg (by omega), hsame y hlt e2]
        exact hy)
  exact ⟨S5, ((E.trans E3).trans E4).trans E5, hle⟩
end

theorem insCells_app {cs sp vs : List Value} {off i len o : Nat} (hi : i < len) (hl : off + len * o ≤ cs.length) : insCells (cs ++ sp) vs off i len o = insCells cs vs off i len o := by
  have m1 : i * o + (len - i) * o = len * o := by rw [← Nat.add_mul]; congr 1; omega
  unfold insCells
  rw [List.drop_append_of_le_length (by omega), List.take_append_of_le_length (by simp; omega), List.drop_append_of_le_length (by omega), List.take_append_of_le_length (by simp; omega)]
end Go.AI

/- slices.Insert's rule is sound. -/
namespace Go.AI

section
variable {P : Program} {T : Tab} {ng : Nat} {F : Nat → Option AFunc}

theorem all2_three {ρ : Rho} {a b c : Value} {l : List Value} (h : All2 (VR ρ) [a, b, c] l) : ∃ x y z, l = [x, y, z] ∧ VR ρ a x ∧ VR ρ b y ∧ VR ρ c z := by
  cases h with
  | cons h1 h => cases h with
    | cons h2 h => cases h with
      | cons h3 h => cases h with
        | nil => exact ⟨_, _, _, rfl, h1, h2, h3⟩

theorem slice_inv {ρ : Rho} {b o len cap : Nat} {c : Value} (h : VR ρ (.slice (some ⟨b, o, none⟩) len cap) c) : ∃ r ca ccap, ρ b = some r ∧ SliceOk r o len cap ca ccap ∧ c = .slice (some ca) len ccap := by
  have := CR.of_simple h rfl
  cases this with
  | slice h' hs => exact ⟨_, _, _, h', hs, rfl⟩

theorem ins_prim (hF : FOk P T ng (drawOf T ng) F) (hT : TabOk P T) {f fo fs : Nat} {z : List Value} {o bytes : Nat} {fov : AFunc} (hf : F f = some ⟨[.tmp 6], insBody z o bytes fo fs, .no⟩) (hfo : F fo = some fov) (hov : fov.prim = .ovl)
    (hz : z.length = o) (ho : 0 < o) (hby : bytes ≤ 1000) : PrimOk P T ng (drawOf T ng) f (insV o) := by
  intro args h v h' hv cargs ρ w S hG ha ccs
  obtain ⟨b, off, len, i, x, xo, xc, cs, s, xcs, xop, xs, vs, rfl, hb, hx, hi, hlen, hbx, hsm, hvs, rfl, rfl⟩ := insV_inv hv
  obtain ⟨c0, c1, c2, rfl, h0, h1, h2⟩ := all2_three ha
  obtain ⟨r, ca, ccap, hρ, hsl, rfl⟩ := slice_inv h0
  obtain ⟨tcs, el, fr, hw, hrl, hro, ⟨hroom, hspare⟩, hfr, hcells⟩ := S.obj b r _ hρ hb
  have hlo : 0 < len * o := Nat.mul_pos (by omega) ho
  have hrr : r.len ≤ r.room := by
    obtain ⟨c, hc, _⟩ := hcells (cs.length - 1) _ (List.getElem?_eq_getElem (by omega))
    have := (Array.getElem?_eq_some_iff.mp hc).1
    omega
  have hspl : (tcs.toList.drop (r.base + r.len)).length = r.room - r.len := by simp; omega
  have hext : (cs ++ tcs.toList.drop (r.base + r.len)).length = r.room := by rw [List.length_append, hspl]; omega
  have hspc : ∀ j v, (tcs.toList.drop (r.base + r.len))[j]? = some v → constCell v = true ∧ tcs[r.base + (r.len + j)]? = some v := by
    intro j v hj
    rw [List.getElem?_drop] at hj
    have hj' : tcs[r.base + (r.len + j)]? = some v := by rw [← Nat.add_assoc]; simpa using hj
    exact ⟨hspare (by omega) (r.len + j) v (by omega) hj', hj'⟩
  let im : Img := ⟨r.blk, r.base, r.room, 0, r.room⟩
  have hle1 := updR_le (r := im) S.fresh
  have hob1 : ObjOk (CCof T ng (drawOf T ng)) (updR ρ h.next im) im (.blk (cs ++ tcs.toList.drop (r.base + r.len)) false 0 0) w := by
    refine ⟨tcs, el, fr, hw, hext.symm, rfl, ⟨hroom, fun h => absurd rfl h⟩, hfr, fun j v hj => ?_⟩
    by_cases hjl : j < cs.length
    · rw [List.getElem?_append_left hjl] at hj
      obtain ⟨c, hc, hk⟩ := hcells j v hj
      exact ⟨c, hc, hk.mono hle1⟩
    · rw [List.getElem?_append_right (by omega)] at hj
      obtain ⟨hc, ht⟩ := hspc _ _ hj
      refine ⟨v, ?_, .cell (constCell_rel hc)⟩
      rw [← ht]
      show tcs[r.base + j]? = _
      congr 1; omega
  obtain ⟨S1, E1⟩ := S.move (im := im) hρ hb rfl rfl ⟨rfl, rfl, rfl, rfl, fun _ _ => rfl⟩ hob1
  have hbn := S.wf _ _ hb
  have hxn := S.wf _ _ hx
  have hget1 : ∀ y, (({ h with tr := h.tr.del b } : Heap).new (.blk (cs ++ tcs.toList.drop (r.base + r.len)) false 0 0)).tr.get y = if y = h.next then some (.blk (cs ++ tcs.toList.drop (r.base + r.len)) false 0 0) else if y = b then none else h.tr.get y := by
    intro y
    simp only [Heap.new, Tr.get_set, Tr.get_del]
  have hn1 : (({ h with tr := h.tr.del b } : Heap).new (.blk (cs ++ tcs.toList.drop (r.base + r.len)) false 0 0)).next = h.next + 1 := rfl
  generalize hh1 : ({ h with tr := h.tr.del b } : Heap).new (.blk (cs ++ tcs.toList.drop (r.base + r.len)) false 0 0) = h1' at *
  have hb1 : h1'.tr.get h.next = some (.blk (cs ++ tcs.toList.drop (r.base + r.len)) false 0 0) := by rw [hget1, if_pos rfl]
  have hx1 : h1'.tr.get x = some (.blk xcs false xop xs) := by rw [hget1, if_neg (by omega), if_neg (Ne.symm hbx)]; exact hx
  have hvs1 : readAt h1' x xo o = some vs := by
    rw [← hvs]; unfold readAt; rw [hx1, hx]
  have hvl : vs.length = o := by
    unfold readAt at hvs
    rw [hx] at hvs
    dsimp only at hvs
    split at hvs
    · rename_i hh; cases hvs; exact Nat.eq_of_beq_eq_true hh
    · cases hvs
  have hca : ca = ⟨r.blk, r.base + off, none⟩ := by
    rcases hsl.1 with e | ⟨_, e⟩
    · exact e
    · omega
  have hcc : len ≤ ccap := by
    rcases hsl.2.1 with e | e
    · omega
    · omega
  have hoffr : off + len * o ≤ r.room := by omega
  have hargs : All2 (VR (updR ρ h.next im)) [.slice (some ⟨h.next, off, none⟩) len ccap, .int .i64 (.ofNat i), .slice (some ⟨x, xo, none⟩) 1 xc] [.slice (some ca) len ccap, c1, c2] := by
    refine .cons (CR.vr (.slice (r := im) (by simp [updR]) ⟨.inl hca, .inl rfl, hcc⟩)) (.cons (h1.mono hle1) (.cons (h2.mono hle1) .nil))
  have hG1 := hG.mono hle1
  have hoff0 : ({ h with tr := h.tr.del b } : Heap).next = h.next := rfl
  by_cases hroomy : ccap = len
  · subst hroomy
    obtain ⟨n, v2, h2', hr, rfl, hn2, hc2, hsame, s', hk2⟩ := ins_full (F := F) hf hz ho hby (h := h1') (b := h.next) (off := off) (i := i) (xc := xc) hi hsm hb1 (by rw [List.length_append]; omega) hx1 hvs1 (by omega) (show x < h1'.next by omega) (show h.next < h1'.next by omega)
    obtain ⟨fn, ρ2, w2, c, fr2, g1, g2, g3, g4, g5, g6, g7, S2, E2⟩ := call_sound hF hT hr S1 hG1 hargs ccs
    obtain ⟨r2, ca2, ccap2, hρ2, hsl2, rfl⟩ := slice_inv g7
    rw [insCells_app hi (by omega)] at hk2
    have hob2 := S2.obj _ _ _ hρ2 hk2
    obtain ⟨S3, E3, hle3⟩ := ins_finish (b := b) (im := r2) S2 (E1.trans E2) hρ2 hk2 rfl hob2 (by omega) (by omega) S.wf (fun y hy hyb => by rw [hsame y (by omega), hget1, if_neg (by omega), if_neg hyb])
    exact ⟨fn, _, w2, _, fr2, g1, g2, g3, g4, g5, g6, CR.vr (.slice (r := r2) (by simp [updR]) hsl2), S3, E3⟩
  · have hlt : len < ccap := by omega
    have hbig : off + ccap * o ≤ r.room := by
      rcases hsl.2.1 with e | ⟨_, _, _, e⟩
      · exact absurd e hroomy
      · rw [hro] at e; exact e
    have hmul : (len + 1) * o ≤ ccap * o := Nat.mul_le_mul_right _ hlt
    have e1 : (len + 1) * o = len * o + o := by rw [Nat.add_mul]; omega
    obtain ⟨n, v2, h2', hr, rfl, hn2, hc2, hsame, s', hk2⟩ := ins_room (F := F) hf hfo hov ho (h := h1') (b := h.next) (off := off) (i := i) (xc := xc) hi hlt hsm hb1 (by rw [hext]; exact hbig) hx1 hvs1 (by omega)
    obtain ⟨fn, ρ2, w2, c, fr2, g1, g2, g3, g4, g5, g6, g7, S2, E2⟩ := call_sound hF hT hr S1 hG1 hargs ccs
    obtain ⟨r2, ca2, ccap2, hρ2, hsl2, rfl⟩ := slice_inv g7
    have hr2 : r2 = im := by
      have := E2.le h.next im (by simp [updR])
      rw [this] at hρ2; cases hρ2; rfl
    subst hr2
    rw [insCells_app hi (by omega)] at hk2
    have hil := length_insCells (cs := cs) (vs := vs) (off := off) hi hvl (by omega)
    obtain ⟨tcs2, el2, fr2', hw2, hl2, _, ⟨hroom2, _⟩, hfr2, hcells2⟩ := S2.obj _ _ _ hρ2 hk2
    have htk : ((cs ++ tcs.toList.drop (r.base + r.len)).take off).length = off := by rw [List.length_take, hext]; omega
    let im3 : Img := ⟨r.blk, r.base + off, (len + 1) * o, o, r.room - off⟩
    have hob3 : BlkOk ρ2 im3 (insCells cs vs off i len o) false o w2 := by
      refine ⟨tcs2, el2, fr2', hw2, hil.symm, rfl, ⟨?_, fun _ j c hj hc => ?_⟩, hfr2, fun j v hj => ?_⟩
      · have : r.base + r.room = tcs2.size := hroom2
        show r.base + off + (r.room - off) = tcs2.size
        omega
      · have hj : (len + 1) * o ≤ j := hj
        have hc : tcs2[r.base + off + j]? = some c := hc
        have hsz := (Array.getElem?_eq_some_iff.mp hc).1
        have hroom2' : r.base + r.room = tcs2.size := hroom2
        have hv : ∃ v, (tcs.toList.drop (r.base + r.len))[off + j - cs.length]? = some v := ⟨_, List.getElem?_eq_getElem (by rw [hspl]; omega)⟩
        obtain ⟨v, hv⟩ := hv
        have hC : ((cs ++ tcs.toList.drop (r.base + r.len)).take off ++ insCells cs vs off i len o ++ (cs ++ tcs.toList.drop (r.base + r.len)).drop (off + (len + 1) * o))[off + j]? = some v := by
          rw [List.getElem?_append_right (by rw [List.length_append, htk, hil]; omega), List.length_append, htk, hil, List.getElem?_drop, show off + (len + 1) * o + (off + j - (off + (len + 1) * o)) = off + j by omega,
            List.getElem?_append_right (by omega)]
          exact hv
        obtain ⟨c', hc', hk'⟩ := hcells2 _ _ hC
        have hc'' : tcs2[r.base + (off + j)]? = some c' := hc'
        rw [← Nat.add_assoc, hc] at hc''
        cases hc''
        exact const_KR hk' (hspc _ _ hv).1
      · have hjl := (List.getElem?_eq_some_iff.mp hj).1
        have hC : ((cs ++ tcs.toList.drop (r.base + r.len)).take off ++ insCells cs vs off i len o ++ (cs ++ tcs.toList.drop (r.base + r.len)).drop (off + (len + 1) * o))[off + j]? = some v := by
          rw [List.getElem?_append_left (by rw [List.length_append, htk]; omega), List.getElem?_append_right (by rw [htk]; omega), htk, show off + j - off = j by omega]
          exact hj
        obtain ⟨c', hc', hk'⟩ := hcells2 _ _ hC
        refine ⟨c', ?_, hk'⟩
        rw [← hc']
        show tcs2[r.base + off + j]? = tcs2[r.base + (off + j)]?
        rw [Nat.add_assoc]
    obtain ⟨S3, E3, hle3⟩ := ins_finish (b := b) (im := im3) S2 (E1.trans E2) hρ2 hk2 rfl hob3 (by omega) (by omega) S.wf (fun y hy hyb => by rw [hsame y (by omega) (by omega), hget1, if_neg (by omega), if_neg hyb])
    refine ⟨fn, _, w2, _, fr2, g1, g2, g3, g4, g5, g6, CR.vr (.slice (r := im3) (by simp [updR]) ⟨.inl ?_, .inr ⟨by show o ≠ 0; omega, ?_, ?_, ?_⟩, Nat.le_refl _⟩), S3, E3⟩
    · rcases hsl2.1 with e | ⟨_, e⟩
      · rw [e]; rfl
      · omega
    · rcases hsl2.2.1 with e | ⟨e, _⟩
      · omega
      · exact absurd rfl e
    · show 0 + (len + 1) * o = (len + 1) * o; omega
    · have : ccap2 = ccap := by
        rcases hsl2.2.1 with e | ⟨e, _⟩
        · exact e
        · exact absurd rfl e
      subst this
      show 0 + ccap2 * o ≤ r.room - off
      omega
end
end Go.AI

/- Functions by rules, ahead of those as they stand; a law on plain numbers by them. -/
namespace Go.AI

/-- slices.Insert by its rule; where that says nothing, as it stands -/
def insOr (F : Nat → Option AFunc) (fuel f o : Nat) (args : List Value) (h : Heap) : Option (Value × Heap) :=
  match insV o args h with
  | some r => some r
  | none => call F fuel f args h

theorem insOr_keeps {F : Nat → Option AFunc} {fuel f o : Nat} (args : List Value) (h : Heap) (v : Value) (h' : Heap) (hv : insOr F fuel f o args h = some (v, h')) : Keeps h h' := by
  unfold insOr at hv
  split at hv
  · rename_i r hr
    cases hv
    exact insV_keeps hr
  · exact callF_keeps (run_keeps fuel) hv

/-- the rule for slices.overlaps ahead -/
def withOvl (F : Nat → Option AFunc) (fo : Nat) (f : Nat) : Option AFunc := bif Nat.beq f fo then some ⟨[], .bad, .ovl⟩ else F f
/-- the rule for slices.Insert ahead -/
def withIns (F : Nat → Option AFunc) (fuel fi o : Nat) (f : Nat) : Option AFunc := bif Nat.beq f fi then some ⟨[], .bad, .run (insOr F fuel fi o) insOr_keeps⟩ else F f

section
variable {P : Program} {T : Tab} {ng : Nat} {F : Nat → Option AFunc}

theorem withOvl_ok {dr : Draws} (hF : FOk P T ng dr F) {fo : Nat} (ho : OvlOk P T fo) : FOk P T ng dr (withOvl F fo) := by
  intro f af h
  unfold withOvl at h
  cases hb : Nat.beq f fo with
  | true =>
    rw [hb] at h
    cases h
    rw [Nat.eq_of_beq_eq_true hb]
    exact ho
  | false => rw [hb] at h; exact hF f af h

theorem withIns_ok (hF : FOk P T ng (drawOf T ng) F) (hT : TabOk P T) {f fo fs fuel : Nat} {z : List Value} {o bytes : Nat} {fov : AFunc} (hf : F f = some ⟨[.tmp 6], insBody z o bytes fo fs, .no⟩) (hfo : F fo = some fov) (hov : fov.prim = .ovl)
    (hz : z.length = o) (ho : 0 < o) (hby : bytes ≤ 1000) : FOk P T ng (drawOf T ng) (withIns F fuel f o) := by
  intro g af h
  unfold withIns at h
  cases hb : Nat.beq g f with
  | true =>
    rw [hb] at h
    cases h
    rw [Nat.eq_of_beq_eq_true hb]
    intro args h v h' hv
    unfold insOr at hv
    split at hv
    · rename_i r hr
      cases hv
      exact ins_prim hF hT hf hfo hov hz ho hby args h v h' hr
    · intro cargs ρ w S hG ha cs
      exact call_sound hF hT hv S hG ha cs
  | false => rw [hb] at h; exact hF g af h

/-- A call of a law on plain numbers, in a program with one variable whose cells are known, with functions by rules. -/
theorem law_laidF (hF : FOk P (tabOf P) 1 (drawOf (tabOf P) 1) F) {fuel f : Nat} {args cs : List Value} (hcs : ∀ v ∈ cs, constCell v = true)
    (hc : (call F fuel f args (heap1 cs)).map (·.1) = some (.bool true)) (ha : ∀ v ∈ args, constCell v = true) (W : World) (hW : ∃ el fr, W.heap[0]? = some (.cells ⟨cs⟩ el fr)) :
    Calls P f ⟨args⟩ W (fun e W' => e = .returned (.bool true) ∧ W.keptBut W' (fun _ => False)) := by
  obtain ⟨el, fr0, hW⟩ := hW
  cases hcall : call F fuel f args (heap1 cs) with
  | none => rw [hcall] at hc; cases hc
  | some x =>
    obtain ⟨v, h'⟩ := x
    rw [hcall] at hc
    simp only [Option.map_some, Option.some.injEq] at hc
    subst hc
    intro ccs
    let ρ : Rho := fun b => if b = 0 then some ⟨0, 0, cs.length, 0, cs.length⟩ else none
    have hρ : ∀ b r, ρ b = some r → b = 0 ∧ r = ⟨0, 0, cs.length, 0, cs.length⟩ := by
      intro b r h
      by_cases e : b = 0
      · simp only [ρ, e, if_true, Option.some.injEq] at h; exact ⟨e, h.symm⟩
      · simp [ρ, e] at h
    have hget : ∀ b o, (heap1 cs).tr.get b = some o → b = 0 ∧ o = .blk cs true 0 0 := by
      intro b o h
      cases b with
      | zero => simp only [heap1, Tr.get, Option.some.injEq] at h; exact ⟨rfl, h.symm⟩
      | succ b =>
        simp only [heap1, Tr.get] at h
        cases hb : Nat.beq (b % 2) 0 <;> rw [hb] at h <;> simp at h
    have hnw : ∀ b, ¬ writable (heap1 cs) b := by
      rintro b ⟨o, ho, hr⟩
      rw [(hget b o ho).2] at hr; cases hr
    have S : Sim (CCof (tabOf P) 1 (drawOf (tabOf P) 1)) ρ (heap1 cs) W := by
      refine ⟨fun b r h => ?_, fun b r o h ho => ?_, fun b b' r r' o _ _ hw => absurd hw (hnw b), fun b o h => ?_⟩
      · obtain ⟨rfl, rfl⟩ := hρ b r h
        exact ⟨Nat.zero_lt_one, blk_lt hW⟩
      · obtain ⟨rfl, rfl⟩ := hρ b r h
        rw [(hget _ o ho).2]
        refine ⟨⟨cs⟩, el, fr0, hW, rfl, rfl, by simp, fun h => (by cases h), fun j v hv => ⟨v, ?_, .cell (constCell_rel (hcs v (List.mem_of_getElem? hv)))⟩⟩
        simpa using hv
      · rw [(hget b o h).1]; exact Nat.zero_lt_one
    have hargs : All2 (VR ρ) args args := by
      have : ∀ l : List Value, (∀ v ∈ l, constCell v = true) → All2 (VR ρ) l l := by
        intro l
        induction l with
        | nil => intro _; exact .nil
        | cons v l ih => intro h; exact .cons (constCell_rel (h v (List.mem_cons_self ..))).vr (ih fun u hu => h u (List.mem_cons_of_mem _ hu))
      exact this args ha
    have hGl : Globs 1 ρ := by
      intro g hg
      have : g = 0 := by omega
      subst this
      exact ⟨_, rfl, rfl, rfl⟩
    obtain ⟨fn, ρ', w', c, fr, _, _, _, h4, h5, h6, h7, _, h9⟩ := call_sound hF (tabOf_ok P) hcall S hGl hargs ccs
    have hcb := h7.bool_inv
    subst hcb
    refine ⟨.returned (.bool true), w', fr, ⟨rfl, h9.os, h9.output, ?_⟩, h4, h5, h6⟩
    intro i hi
    rw [h9.keep i hi (fun b r _ hw => absurd hw (hnw b))]
    cases hx : W.heap[i]? with
    | none => rfl
    | some o =>
      cases o with
      | cells cc t fr => exact ⟨rfl, rfl, rfl, fun _ _ => rfl⟩
      | map es cl => exact .inr ⟨rfl, rfl⟩
      | _ => rfl
end
end Go.AI
