/- The pure law BeatApart. Conditions: none. -/
import Derived.Test.YtckoficjcnaedaaPc
