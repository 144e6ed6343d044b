/- The pure law BeatTells. Conditions: none. -/
import Derived.Test.YtckoficjcnaedaaPc
