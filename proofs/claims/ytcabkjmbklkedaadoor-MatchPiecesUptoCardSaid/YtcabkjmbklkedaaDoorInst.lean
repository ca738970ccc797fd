/- The syntaxes, number by number (without names, times and lists of lines). -/
import Derived.Test.YtcabkjmbklkedaaDoorNorm
namespace Go.Proofs.YtcabkjmbklkedaaDoor.W
open Go.RowKit Go.Proofs.YtcabkjmbklkedaaDoor.Plain

theorem small {s : ByteArray} (h : s.size ≤ 1073741824) : s.size ≤ 140737488351232 := by omega
theorem k_text : NKind 1 86 84 nText := ⟨fun w hg => of_at 1 1 _ rfl (by omega) rfl w hg, fun _ _ => by kernel_rfl, enters_of Tryd.func84 (by kernel_rfl) rfl, fun s w hs _ => text_any s w (small hs)⟩
theorem k_exact : NKind 2 84 67 nExact := ⟨fun w hg => of_at 2 2 _ rfl (by omega) rfl w hg, fun _ _ => by kernel_rfl, enters_of Tryd.func67 (by kernel_rfl) rfl, fun s w hs _ => exact_any s w (small hs)⟩
theorem k_ia5 : NKind 3 91 92 nLowF := ⟨fun w hg => of_at 3 3 _ rfl (by omega) rfl w hg, fun _ _ => by kernel_rfl, enters_of Tryd.func92 (by kernel_rfl) rfl, fun s w hs _ => lowF_any s w (small hs)⟩
theorem k_ia5x : NKind 4 89 87 nLow := ⟨fun w hg => of_at 4 4 _ rfl (by omega) rfl w hg, fun _ _ => by kernel_rfl, enters_of Tryd.func87 (by kernel_rfl) rfl, fun s w hs _ => low_any s w (small hs)⟩
theorem k_num : NKind 5 92 94 nNum := ⟨fun w hg => of_at 5 5 _ rfl (by omega) rfl w hg, fun _ _ => by kernel_rfl, enters_of Tryd.func94 (by kernel_rfl) rfl, fun s w hs hg => num_any s w hs hg⟩
theorem k_phone : NKind 6 93 115 nPhone := ⟨fun w hg => of_at 6 6 _ rfl (by omega) rfl w hg, fun _ _ => by kernel_rfl, enters_of Tryd.func115 (by kernel_rfl) rfl, fun s w hs hg => phone_any s w hs hg⟩
theorem k_int : NKind 7 94 122 nInt := ⟨fun w hg => of_at 7 7 _ rfl (by omega) rfl w hg, fun _ _ => by kernel_rfl, enters_of Tryd.func122 (by kernel_rfl) rfl, fun s w hs _ => int_any s w hs⟩
theorem k_bool : NKind 8 95 126 nBool := ⟨fun w hg => of_at 8 8 _ rfl (by omega) rfl w hg, fun _ _ => by kernel_rfl, enters_of Tryd.func126 (by kernel_rfl) rfl, fun s w _ _ => bool_any s w⟩
theorem k_octet : NKind 9 96 127 nOctet := ⟨fun w hg => of_at 9 9 _ rfl (by omega) rfl w hg, fun _ _ => by kernel_rfl, enters_of Tryd.func127 (by kernel_rfl) rfl, fun s w _ _ => octet_any s w⟩
theorem k_oid : NKind 11 98 200 nOid := ⟨fun w hg => of_at 11 11 _ rfl (by omega) rfl w hg, fun _ _ => by kernel_rfl, enters_of Tryd.func200 (by kernel_rfl) rfl, fun s w hs hg => oid_any s w hs hg⟩

end Go.Proofs.YtcabkjmbklkedaaDoor.W
