/-
MADE BY PROGRAM (GenFI.lean): what the functions of the dump name, part 3.
-/
import Derived.Test.YtpolhfiikbmplaaGreatDoorProg
import Derived.Test.YtpolhfiikbmplaaGreatDoorFi
import Derived.KernelRfl
namespace Go.Ev
open Go.Proofs
theorem fi501 : fiOf Tryz.prog Tryz.f501 = ⟨[283, 498, 503, 530, 502], none, [], false, none, false⟩ := by kernel_rfl
theorem fi502 : fiOf Tryz.prog Tryz.f502 = ⟨[279, 527], none, [], false, none, false⟩ := by kernel_rfl
theorem fi503 : fiOf Tryz.prog Tryz.f503 = ⟨[531, 532], none, [], false, none, false⟩ := by kernel_rfl
theorem fi504 : fiOf Tryz.prog Tryz.f504 = ⟨[], none, [], false, none, false⟩ := by kernel_rfl
theorem fi505 : fiOf Tryz.prog Tryz.f505 = ⟨[], none, [], true, none, false⟩ := by kernel_rfl
theorem fi506 : fiOf Tryz.prog Tryz.f506 = ⟨[533, 534, 535, 536, 537, 538, 539, 540, 541, 506, 506], none, [], false, none, false⟩ := by kernel_rfl
theorem fi507 : fiOf Tryz.prog Tryz.f507 = ⟨[], none, [], false, none, false⟩ := by kernel_rfl
theorem fi508 : fiOf Tryz.prog Tryz.f508 = ⟨[511, 293, 510, 511, 293, 510, 509], none, [], false, none, false⟩ := by kernel_rfl
theorem fi509 : fiOf Tryz.prog Tryz.f509 = ⟨[542, 293, 511, 293, 365, 365, 437, 293, 510, 511, 510, 293, 511, 365, 365, 437, 511, 365, 365, 437, 455, 510, 455, 510, 365, 378, 365, 514], none, [], false, none, false⟩ := by kernel_rfl
theorem fi510 : fiOf Tryz.prog Tryz.f510 = ⟨[381, 281, 293, 436], none, [], false, none, false⟩ := by kernel_rfl
theorem fi511 : fiOf Tryz.prog Tryz.f511 = ⟨[293, 455], none, [], false, none, false⟩ := by kernel_rfl
theorem fi512 : fiOf Tryz.prog Tryz.f512 = ⟨[455, 455], none, [], false, none, false⟩ := by kernel_rfl
theorem fi513 : fiOf Tryz.prog Tryz.f513 = ⟨[511, 353], none, [], false, none, false⟩ := by kernel_rfl
theorem fi514 : fiOf Tryz.prog Tryz.f514 = ⟨[378, 543, 293, 436], none, [], false, none, false⟩ := by kernel_rfl
theorem fi515 : fiOf Tryz.prog Tryz.f515 = ⟨[253, 253, 451], none, [], true, none, false⟩ := by kernel_rfl
theorem fi516 : fiOf Tryz.prog Tryz.f516 = ⟨[189, 455, 381, 524, 281, 293, 436, 293, 455, 294, 280], none, [], false, none, false⟩ := by kernel_rfl
theorem fi517 : fiOf Tryz.prog Tryz.f517 = ⟨[544, 280, 464, 280, 464], none, [], true, none, false⟩ := by kernel_rfl
theorem fi518 : fiOf Tryz.prog Tryz.f518 = ⟨[280, 464, 280, 464, 547, 546], none, [], false, none, false⟩ := by kernel_rfl
theorem fi519 : fiOf Tryz.prog Tryz.f519 = ⟨[362], none, [], false, none, false⟩ := by kernel_rfl
theorem fi520 : fiOf Tryz.prog Tryz.f520 = ⟨[189, 484, 280], none, [], false, none, false⟩ := by kernel_rfl
theorem fi521 : fiOf Tryz.prog Tryz.f521 = ⟨[], none, [], false, none, false⟩ := by kernel_rfl
theorem fi522 : fiOf Tryz.prog Tryz.f522 = ⟨[330], none, [], true, none, false⟩ := by kernel_rfl
theorem fi523 : fiOf Tryz.prog Tryz.f523 = ⟨[], none, [], false, none, false⟩ := by kernel_rfl
theorem fi524 : fiOf Tryz.prog Tryz.f524 = ⟨[293, 379, 455, 491, 381, 293, 365, 436, 453, 366, 491, 366], none, [], false, none, false⟩ := by kernel_rfl
theorem fi525 : fiOf Tryz.prog Tryz.f525 = ⟨[353], none, [], false, none, false⟩ := by kernel_rfl
theorem fi526 : fiOf Tryz.prog Tryz.f526 = ⟨[167, 548], none, [], false, none, false⟩ := by kernel_rfl
theorem fi527 : fiOf Tryz.prog Tryz.f527 = ⟨[549, 550, 551, 346, 552, 553, 295], none, [], false, none, false⟩ := by kernel_rfl
theorem fi528 : fiOf Tryz.prog Tryz.f528 = ⟨[], none, [], false, none, false⟩ := by kernel_rfl
theorem fi529 : fiOf Tryz.prog Tryz.f529 = ⟨[225, 225, 554, 555], none, [], false, none, false⟩ := by kernel_rfl
theorem fi530 : fiOf Tryz.prog Tryz.f530 = ⟨[], none, [], false, none, false⟩ := by kernel_rfl
theorem fi531 : fiOf Tryz.prog Tryz.f531 = ⟨[556, 557, 557, 557, 557, 558, 559, 559, 558, 560, 557, 561], none, [], false, none, false⟩ := by kernel_rfl
theorem fi532 : fiOf Tryz.prog Tryz.f532 = ⟨[], none, [], false, none, false⟩ := by kernel_rfl
theorem fi533 : fiOf Tryz.prog Tryz.f533 = ⟨[539], none, [], false, none, false⟩ := by kernel_rfl
theorem fi534 : fiOf Tryz.prog Tryz.f534 = ⟨[562, 562], none, [], false, none, false⟩ := by kernel_rfl
theorem fi535 : fiOf Tryz.prog Tryz.f535 = ⟨[287, 288], none, [], false, none, false⟩ := by kernel_rfl
theorem fi536 : fiOf Tryz.prog Tryz.f536 = ⟨[563, 563, 563, 564], none, [], false, none, false⟩ := by kernel_rfl
theorem fi537 : fiOf Tryz.prog Tryz.f537 = ⟨[], none, [], false, none, false⟩ := by kernel_rfl
theorem fi538 : fiOf Tryz.prog Tryz.f538 = ⟨[539, 539, 539], none, [], false, none, false⟩ := by kernel_rfl
theorem fi539 : fiOf Tryz.prog Tryz.f539 = ⟨[182, 182], none, [], false, none, false⟩ := by kernel_rfl
theorem fi540 : fiOf Tryz.prog Tryz.f540 = ⟨[539, 539], none, [], false, none, false⟩ := by kernel_rfl
theorem fi541 : fiOf Tryz.prog Tryz.f541 = ⟨[539, 539, 539, 539], none, [], false, none, false⟩ := by kernel_rfl
theorem fi542 : fiOf Tryz.prog Tryz.f542 = ⟨[365, 378, 365, 514], none, [], false, none, false⟩ := by kernel_rfl
theorem fi543 : fiOf Tryz.prog Tryz.f543 = ⟨[377], none, [], false, none, false⟩ := by kernel_rfl
theorem fi544 : fiOf Tryz.prog Tryz.f544 = ⟨[545, 519, 263, 263], none, [], false, none, false⟩ := by kernel_rfl
theorem fi545 : fiOf Tryz.prog Tryz.f545 = ⟨[565, 566, 567, 568, 569, 570, 571, 572, 525, 573], none, [], false, none, false⟩ := by kernel_rfl
theorem fi546 : fiOf Tryz.prog Tryz.f546 = ⟨[362], none, [], false, none, false⟩ := by kernel_rfl
theorem fi547 : fiOf Tryz.prog Tryz.f547 = ⟨[353, 353, 574, 574, 575, 575, 255, 465, 513, 513, 576, 576, 577, 576, 576, 577], none, [], false, none, false⟩ := by kernel_rfl
theorem fi548 : fiOf Tryz.prog Tryz.f548 = ⟨[292, 372], none, [], false, none, false⟩ := by kernel_rfl
theorem fi549 : fiOf Tryz.prog Tryz.f549 = ⟨[578], none, [], false, none, false⟩ := by kernel_rfl
theorem fi550 : fiOf Tryz.prog Tryz.f550 = ⟨[551], none, [], false, none, false⟩ := by kernel_rfl
theorem fi551 : fiOf Tryz.prog Tryz.f551 = ⟨[579, 580], none, [], false, none, false⟩ := by kernel_rfl
theorem fi552 : fiOf Tryz.prog Tryz.f552 = ⟨[581], none, [], true, none, false⟩ := by kernel_rfl
theorem fi553 : fiOf Tryz.prog Tryz.f553 = ⟨[190], none, [], false, none, false⟩ := by kernel_rfl
theorem fi554 : fiOf Tryz.prog Tryz.f554 = ⟨[90, 582], none, [], false, none, false⟩ := by kernel_rfl
theorem fi555 : fiOf Tryz.prog Tryz.f555 = ⟨[92], none, [], false, none, false⟩ := by kernel_rfl
theorem fi556 : fiOf Tryz.prog Tryz.f556 = ⟨[189, 583, 372, 583], none, [], false, none, false⟩ := by kernel_rfl
theorem fi557 : fiOf Tryz.prog Tryz.f557 = ⟨[584], none, [], false, none, false⟩ := by kernel_rfl
theorem fi558 : fiOf Tryz.prog Tryz.f558 = ⟨[530, 531, 557, 531, 557], none, [], false, none, false⟩ := by kernel_rfl
theorem fi559 : fiOf Tryz.prog Tryz.f559 = ⟨[558, 557, 558], none, [], false, none, false⟩ := by kernel_rfl
theorem fi560 : fiOf Tryz.prog Tryz.f560 = ⟨[585], none, [], false, none, false⟩ := by kernel_rfl
theorem fi561 : fiOf Tryz.prog Tryz.f561 = ⟨[560, 586, 557, 557, 531, 557], none, [], false, none, false⟩ := by kernel_rfl
theorem fi562 : fiOf Tryz.prog Tryz.f562 = ⟨[539, 539], none, [], false, none, false⟩ := by kernel_rfl
theorem fi563 : fiOf Tryz.prog Tryz.f563 = ⟨[564], none, [], false, none, false⟩ := by kernel_rfl
theorem fi564 : fiOf Tryz.prog Tryz.f564 = ⟨[587, 587, 587], none, [], false, none, false⟩ := by kernel_rfl
theorem fi565 : fiOf Tryz.prog Tryz.f565 = ⟨[588, 511, 511, 455, 365, 378, 453, 511, 436, 511, 365, 514, 293, 510, 436, 365, 378, 365, 514, 466, 511, 510, 513, 510, 513], none, [], false, none, false⟩ := by kernel_rfl
theorem fi566 : fiOf Tryz.prog Tryz.f566 = ⟨[292, 589, 379, 379, 455, 455, 366, 455, 455, 437, 455, 436, 510, 510, 590, 511, 293, 510, 511, 293, 510, 590, 293, 365, 436, 365, 436, 466, 293, 365, 365, 591], none, [], false, none, false⟩ := by kernel_rfl
theorem fi567 : fiOf Tryz.prog Tryz.f567 = ⟨[592, 593], none, [], false, none, false⟩ := by kernel_rfl
theorem fi568 : fiOf Tryz.prog Tryz.f568 = ⟨[592, 593], none, [], false, none, false⟩ := by kernel_rfl
theorem fi569 : fiOf Tryz.prog Tryz.f569 = ⟨[592, 169, 169, 255, 255, 593], none, [], false, none, false⟩ := by kernel_rfl
theorem fi570 : fiOf Tryz.prog Tryz.f570 = ⟨[594, 466], none, [], false, none, false⟩ := by kernel_rfl
theorem fi571 : fiOf Tryz.prog Tryz.f571 = ⟨[465, 466, 594, 512, 436, 436, 466, 591], none, [], false, none, false⟩ := by kernel_rfl
theorem fi572 : fiOf Tryz.prog Tryz.f572 = ⟨[575, 588, 595, 466, 589, 588, 595, 465, 455, 437, 455, 437, 466], none, [], false, none, false⟩ := by kernel_rfl
theorem fi573 : fiOf Tryz.prog Tryz.f573 = ⟨[596, 526, 353], none, [], true, none, false⟩ := by kernel_rfl
theorem fi574 : fiOf Tryz.prog Tryz.f574 = ⟨[292, 379, 589, 379], none, [], false, none, false⟩ := by kernel_rfl
theorem fi575 : fiOf Tryz.prog Tryz.f575 = ⟨[292, 589, 293, 365, 366], none, [], false, none, false⟩ := by kernel_rfl
theorem fi576 : fiOf Tryz.prog Tryz.f576 = ⟨[169, 597, 598], none, [], false, none, false⟩ := by kernel_rfl
theorem fi577 : fiOf Tryz.prog Tryz.f577 = ⟨[], none, [], false, none, false⟩ := by kernel_rfl
theorem fi578 : fiOf Tryz.prog Tryz.f578 = ⟨[599, 599, 600, 600], none, [], false, none, false⟩ := by kernel_rfl
theorem fi579 : fiOf Tryz.prog Tryz.f579 = ⟨[], none, [], true, none, false⟩ := by kernel_rfl
theorem fi580 : fiOf Tryz.prog Tryz.f580 = ⟨[92, 93, 91], none, [], false, none, false⟩ := by kernel_rfl
theorem fi581 : fiOf Tryz.prog Tryz.f581 = ⟨[], none, [], true, none, false⟩ := by kernel_rfl
theorem fi582 : fiOf Tryz.prog Tryz.f582 = ⟨[601, 602, 603, 604, 605, 606, 607, 608, 582, 582], none, [], true, none, false⟩ := by kernel_rfl
theorem fi583 : fiOf Tryz.prog Tryz.f583 = ⟨[281, 453, 281, 609], none, [], false, none, false⟩ := by kernel_rfl
theorem fi584 : fiOf Tryz.prog Tryz.f584 = ⟨[610], none, [], false, none, false⟩ := by kernel_rfl
theorem fi585 : fiOf Tryz.prog Tryz.f585 = ⟨[611], none, [], false, none, false⟩ := by kernel_rfl
theorem fi586 : fiOf Tryz.prog Tryz.f586 = ⟨[521], none, [], false, none, false⟩ := by kernel_rfl
theorem fi587 : fiOf Tryz.prog Tryz.f587 = ⟨[539], none, [], false, none, false⟩ := by kernel_rfl
theorem fi588 : fiOf Tryz.prog Tryz.f588 = ⟨[292, 281, 293, 292, 455, 381, 281, 293, 436], none, [], false, none, false⟩ := by kernel_rfl
theorem fi589 : fiOf Tryz.prog Tryz.f589 = ⟨[293], none, [], false, none, false⟩ := by kernel_rfl
theorem fi590 : fiOf Tryz.prog Tryz.f590 = ⟨[542, 293, 511, 510, 511, 293, 365, 365, 436, 293, 510, 293, 511, 365, 365, 436, 511, 365, 365, 436, 455, 510, 455, 510, 365, 455, 378, 365, 455, 514], none, [], false, none, false⟩ := by kernel_rfl
theorem fi591 : fiOf Tryz.prog Tryz.f591 = ⟨[513, 513, 340, 513, 513, 340, 593], none, [], false, none, false⟩ := by kernel_rfl
theorem fi592 : fiOf Tryz.prog Tryz.f592 = ⟨[612, 613, 614, 615, 615, 615, 615], none, [], false, none, false⟩ := by kernel_rfl
theorem fi593 : fiOf Tryz.prog Tryz.f593 = ⟨[485, 616], none, [], false, none, false⟩ := by kernel_rfl
theorem fi594 : fiOf Tryz.prog Tryz.f594 = ⟨[341, 167, 340, 474, 473, 617, 588, 588, 595, 512], none, [], true, none, false⟩ := by kernel_rfl
theorem fi595 : fiOf Tryz.prog Tryz.f595 = ⟨[618, 618, 509, 512], none, [], false, none, false⟩ := by kernel_rfl
theorem fi596 : fiOf Tryz.prog Tryz.f596 = ⟨[525, 619, 574, 575, 575], none, [], false, none, false⟩ := by kernel_rfl
theorem fi597 : fiOf Tryz.prog Tryz.f597 = ⟨[438, 620], none, [], false, none, false⟩ := by kernel_rfl
theorem fi598 : fiOf Tryz.prog Tryz.f598 = ⟨[438, 621], none, [], false, none, false⟩ := by kernel_rfl
theorem fi599 : fiOf Tryz.prog Tryz.f599 = ⟨[], none, [], true, none, false⟩ := by kernel_rfl
theorem fi600 : fiOf Tryz.prog Tryz.f600 = ⟨[622, 600, 600], none, [], true, none, false⟩ := by kernel_rfl
theorem fi601 : fiOf Tryz.prog Tryz.f601 = ⟨[], none, [], true, none, false⟩ := by kernel_rfl
theorem fi602 : fiOf Tryz.prog Tryz.f602 = ⟨[623, 623], none, [], false, none, false⟩ := by kernel_rfl
theorem fi603 : fiOf Tryz.prog Tryz.f603 = ⟨[287, 288], none, [], false, none, false⟩ := by kernel_rfl
theorem fi604 : fiOf Tryz.prog Tryz.f604 = ⟨[624, 624, 624, 625], none, [], false, none, false⟩ := by kernel_rfl
theorem fi605 : fiOf Tryz.prog Tryz.f605 = ⟨[], none, [], false, none, false⟩ := by kernel_rfl
theorem fi606 : fiOf Tryz.prog Tryz.f606 = ⟨[], none, [], true, none, false⟩ := by kernel_rfl
theorem fi607 : fiOf Tryz.prog Tryz.f607 = ⟨[], none, [], true, none, false⟩ := by kernel_rfl
theorem fi608 : fiOf Tryz.prog Tryz.f608 = ⟨[], none, [], true, none, false⟩ := by kernel_rfl
theorem fi609 : fiOf Tryz.prog Tryz.f609 = ⟨[], none, [], false, none, false⟩ := by kernel_rfl
theorem fi610 : fiOf Tryz.prog Tryz.f610 = ⟨[], (some "internal/abi.NoEscape"), [], false, none, false⟩ := by kernel_rfl
theorem fi611 : fiOf Tryz.prog Tryz.f611 = ⟨[626, 627, 628, 629], none, [], false, none, false⟩ := by kernel_rfl
theorem fi612 : fiOf Tryz.prog Tryz.f612 = ⟨[465, 513, 513, 169, 238, 598, 630, 485, 616, 631], none, [], true, none, false⟩ := by kernel_rfl
theorem fi613 : fiOf Tryz.prog Tryz.f613 = ⟨[632], none, [], true, none, false⟩ := by kernel_rfl
theorem fi614 : fiOf Tryz.prog Tryz.f614 = ⟨[633, 633, 366, 634, 513, 634, 513], none, [], false, none, false⟩ := by kernel_rfl
theorem fi615 : fiOf Tryz.prog Tryz.f615 = ⟨[415, 415], none, [], false, none, false⟩ := by kernel_rfl
theorem fi616 : fiOf Tryz.prog Tryz.f616 = ⟨[520], none, [], false, none, false⟩ := by kernel_rfl
theorem fi617 : fiOf Tryz.prog Tryz.f617 = ⟨[167, 238, 169], none, [], false, none, false⟩ := by kernel_rfl
theorem fi618 : fiOf Tryz.prog Tryz.f618 = ⟨[511, 365, 436, 524, 293, 436, 511, 365, 436, 524, 455, 511, 436, 510, 455, 511, 436, 510], none, [], false, none, false⟩ := by kernel_rfl
theorem fi619 : fiOf Tryz.prog Tryz.f619 = ⟨[292, 589, 366], none, [], false, none, false⟩ := by kernel_rfl
theorem fi620 : fiOf Tryz.prog Tryz.f620 = ⟨[484], none, [], false, none, false⟩ := by kernel_rfl
theorem fi621 : fiOf Tryz.prog Tryz.f621 = ⟨[484], none, [], false, none, false⟩ := by kernel_rfl
theorem fi622 : fiOf Tryz.prog Tryz.f622 = ⟨[635, 635, 635], none, [], false, none, false⟩ := by kernel_rfl
theorem fi623 : fiOf Tryz.prog Tryz.f623 = ⟨[], none, [], true, none, false⟩ := by kernel_rfl
theorem fi624 : fiOf Tryz.prog Tryz.f624 = ⟨[625], none, [], false, none, false⟩ := by kernel_rfl
theorem fi625 : fiOf Tryz.prog Tryz.f625 = ⟨[636, 636, 636], none, [], false, none, false⟩ := by kernel_rfl
theorem fi626 : fiOf Tryz.prog Tryz.f626 = ⟨[], none, [], false, none, false⟩ := by kernel_rfl
theorem fi627 : fiOf Tryz.prog Tryz.f627 = ⟨[181, 637, 638], none, [1], false, none, false⟩ := by kernel_rfl
theorem fi628 : fiOf Tryz.prog Tryz.f628 = ⟨[], none, [], false, none, false⟩ := by kernel_rfl
theorem fi629 : fiOf Tryz.prog Tryz.f629 = ⟨[639, 640], none, [], false, none, false⟩ := by kernel_rfl
theorem fi630 : fiOf Tryz.prog Tryz.f630 = ⟨[341, 340], none, [], false, none, false⟩ := by kernel_rfl
theorem fi631 : fiOf Tryz.prog Tryz.f631 = ⟨[], none, [], false, none, false⟩ := by kernel_rfl
theorem fi632 : fiOf Tryz.prog Tryz.f632 = ⟨[633, 634, 365, 378, 513, 365, 514, 513], none, [], false, none, false⟩ := by kernel_rfl
theorem fi633 : fiOf Tryz.prog Tryz.f633 = ⟨[588], none, [], false, none, false⟩ := by kernel_rfl
theorem fi634 : fiOf Tryz.prog Tryz.f634 = ⟨[542, 511, 293, 511, 365, 365, 437, 365, 437, 455, 510, 455, 510], none, [], false, none, false⟩ := by kernel_rfl
theorem fi635 : fiOf Tryz.prog Tryz.f635 = ⟨[], none, [], false, none, false⟩ := by kernel_rfl
theorem fi636 : fiOf Tryz.prog Tryz.f636 = ⟨[], none, [], true, none, false⟩ := by kernel_rfl
theorem fi637 : fiOf Tryz.prog Tryz.f637 = ⟨[], none, [], false, none, false⟩ := by kernel_rfl
theorem fi638 : fiOf Tryz.prog Tryz.f638 = ⟨[], none, [], false, none, false⟩ := by kernel_rfl
theorem fi639 : fiOf Tryz.prog Tryz.f639 = ⟨[], none, [], false, none, false⟩ := by kernel_rfl
theorem fi640 : fiOf Tryz.prog Tryz.f640 = ⟨[452, 641], none, [], false, none, false⟩ := by kernel_rfl
theorem fi641 : fiOf Tryz.prog Tryz.f641 = ⟨[], none, [2], false, none, false⟩ := by kernel_rfl
theorem fi642 : fiOf Tryz.prog Tryz.f642 = ⟨[], (some "(runtime.boundsError).Error"), [], false, none, false⟩ := by kernel_rfl
theorem fi643 : fiOf Tryz.prog Tryz.f643 = ⟨[], (some "(runtime.boundsError).RuntimeError"), [], false, none, false⟩ := by kernel_rfl
theorem fi644 : fiOf Tryz.prog Tryz.f644 = ⟨[], (some "(runtime.errorString).Error"), [], false, none, false⟩ := by kernel_rfl
theorem fi645 : fiOf Tryz.prog Tryz.f645 = ⟨[], (some "(runtime.errorString).RuntimeError"), [], false, none, false⟩ := by kernel_rfl
theorem fi646 : fiOf Tryz.prog Tryz.f646 = ⟨[], (some "(runtime.plainError).Error"), [], false, none, false⟩ := by kernel_rfl
theorem fi647 : fiOf Tryz.prog Tryz.f647 = ⟨[], (some "(runtime.plainError).RuntimeError"), [], false, none, false⟩ := by kernel_rfl
theorem fi648 : fiOf Tryz.prog Tryz.f648 = ⟨[], (some "(runtime.errorAddressString).Error"), [], false, none, false⟩ := by kernel_rfl
theorem fi649 : fiOf Tryz.prog Tryz.f649 = ⟨[], (some "(runtime.errorAddressString).RuntimeError"), [], false, none, false⟩ := by kernel_rfl
theorem fi650 : fiOf Tryz.prog Tryz.f650 = ⟨[], (some "(*runtime.TypeAssertionError).Error"), [], false, none, false⟩ := by kernel_rfl
theorem fi651 : fiOf Tryz.prog Tryz.f651 = ⟨[], (some "(*runtime.TypeAssertionError).RuntimeError"), [], false, none, false⟩ := by kernel_rfl
theorem fi652 : fiOf Tryz.prog Tryz.f652 = ⟨[], (some "(*runtime.PanicNilError).Error"), [], false, none, false⟩ := by kernel_rfl
theorem fi653 : fiOf Tryz.prog Tryz.f653 = ⟨[], (some "(*runtime.PanicNilError).RuntimeError"), [], false, none, false⟩ := by kernel_rfl
theorem fi654 : fiOf Tryz.prog Tryz.f654 = ⟨[], (some "(*internal/abi.Type).Align"), [], false, none, false⟩ := by kernel_rfl
theorem fi655 : fiOf Tryz.prog Tryz.f655 = ⟨[], (some "(internal/runtime/maps.unhashableTypeError).Error"), [], false, none, false⟩ := by kernel_rfl
theorem fi656 : fiOf Tryz.prog Tryz.f656 = ⟨[], (some "(internal/runtime/maps.unhashableTypeError).RuntimeError"), [], false, none, false⟩ := by kernel_rfl
theorem fi657 : fiOf Tryz.prog Tryz.f657 = ⟨[], (some "(*strings.Builder).Reset"), [], false, none, false⟩ := by kernel_rfl
theorem fi658 : fiOf Tryz.prog Tryz.f658 = ⟨[], (some "(internal/abi.Kind).String"), [], false, none, false⟩ := by kernel_rfl
theorem fi659 : fiOf Tryz.prog Tryz.f659 = ⟨[], (some "var's door: gosem.cut.vars holds initialisers alone; see the manifest's row cutvarsword (look 11, test files too)"), [], false, none, false⟩ := by kernel_rfl
theorem fi660 : fiOf Tryz.prog Tryz.f660 = ⟨[], (some "var's door: internal/strconv.uint64pow10 is laid by its own initialiser, plain data (look 11)"), [], false, none, false⟩ := by kernel_rfl
theorem fi661 : fiOf Tryz.prog Tryz.f661 = ⟨[], (some "var's door: math/bits.deBruijn32tab is laid by its own initialiser, plain data (look 11)"), [], false, none, false⟩ := by kernel_rfl
theorem fi662 : fiOf Tryz.prog Tryz.f662 = ⟨[], (some "var's door: math/bits.deBruijn64tab is laid by its own initialiser, plain data (look 11)"), [], false, none, false⟩ := by kernel_rfl
theorem fi663 : fiOf Tryz.prog Tryz.f663 = ⟨[], (some "var's door: the look of gosem.cut.vars went over the folder that the caller named as the repository's root (look 11)"), [], false, none, false⟩ := by kernel_rfl
theorem fi664 : fiOf Tryz.prog Tryz.f664 = ⟨[], none, [0, 2, 1], false, none, false⟩ := by kernel_rfl
end Go.Ev
